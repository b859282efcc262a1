/- The operations that lay or write memory. -/
import Derived.Test.YtngjhimhmpbofaaPs4
import Derived.Maps.AppendAt
import Derived.Laws.OwnMore
import Derived.Laws.MakeOwn
set_option linter.unusedVariables false
set_option linter.unusedSimpArgs false
namespace Go.PS
open Go

section
variable {P : Program} {B : Base} {ρ : Names} {st : St} {a : Act} {w : World} {g : Bool}

/-! ### A local variable -/
def St.box (st : St) (d : Nat) (cells : List S) : St := ⟨(st.kill d).tmps.set d (.one (.ptr d 0)), mset (st.kill d).mem d (cells.map (·.cut (S.names d)))⟩

theorem Names.set_same (ρ : Names) (y : Nat) (b : Option Nat) : (ρ.set y b) y = b := by simp [Names.set]
theorem turns_alloc (hr : Rel B ρ st a w) (d : Nat) (ob : Obj) : Turns B ρ (ρ.set d (some w.heap.size)) w (w.alloc ob) (fun _ => False) (fun z => z = d) :=
  Turns.grow d _ rfl rfl rfl (by simp) (fun b hb => heap_alloc_old w ob b hb) (fun b hb => by cases hb; simp)

theorem Rel.box (hr : Rel B ρ st a w) (d : Nat) {cells : List S} {arr : Array Value} {ty : TypeId} (hs : arr.size = cells.length) (hc : RepL B ρ w cells arr.toList) :
    Rel B (ρ.set d (some w.heap.size)) (st.box d cells) (a.put (some d) (.pointer (some ⟨w.heap.size, 0, none⟩))) (w.alloc (.cells arr ty)) := by
  have tn := turns_alloc hr d (.cells arr ty)
  have k := hr.kept tn
  have h1 := hr.turn tn (cuts_names d) (mset (st.kill d).mem d (cells.map (·.cut (S.names d)))) (fun x cs hx => by
    rw [mget_set] at hx
    split at hx
    · rename_i e; subst e
      cases hx
      right
      refine ⟨w.heap.size, arr, ty, Names.set_same _ _ _, heap_alloc_new w _, by simpa using hs, fun j s hj => ?_⟩
      simp only [List.getElem?_map, Option.map_eq_some_iff] at hj
      obtain ⟨s0, hs0, rfl⟩ := hj
      obtain ⟨c, h1, h2⟩ := hc j s0 hs0
      exact ⟨c, by simpa using h1, k.cutS (cuts_names d) h2⟩
    · rename_i e
      left
      simp only [St.kill] at hx
      rw [mget_cut, mget_drop, if_neg e] at hx
      simp only [Option.map_eq_some_iff] at hx
      obtain ⟨cs0, h0, rfl⟩ := hx
      exact ⟨fun e' => e e'.symm, fun hf => hf.elim, cs0, h0, rfl⟩)
  exact h1.put (some d) (v := .one (.ptr d 0)) ⟨w.heap.size, Names.set_same _ _ _, rfl⟩

/-! ### A new row -/
theorem maxLen_of {n : Nat} (h : n ≤ 9223372036854775807) : n ≤ maxLen := h
/-- A row's elements, as they lie. -/
def RowAt (B : Base) (ρ : Names) (w : World) (z : Nat) (es : List (List S)) (vals : List Value) : Prop :=
  ∀ (i : Nat) (e : List S), es[i]? = some e → e.length = z ∧ ∀ (j : Nat) (s : S), e[j]? = some s → ∃ c, vals[i * z + j]? = some c ∧ Pl (Zs B ρ) w s c

theorem rep_own {ρ' : Names} {w' : World} {x e z n : Nat} {v : Value} {vals : List Value} {es : List (List S)} (ho : w'.ownsRow 0 e z v es.length vals) (hz : 0 < z)
    (hb : ∀ b, v.ownBlock = some b → ρ' x = some b) (hv : RowAt B ρ' w' z es vals) : RepT B ρ' w' (.one (.sl (.own x e) z es)) v := by
  rcases ho.2 with ⟨rfl, hn⟩ | ⟨b, cap, cur, rfl, _, hh, hnc, hcm, hcs, htake⟩
  · have : es = [] := List.eq_nil_of_length_eq_zero hn
    subst this
    exact ⟨none, 0, rfl, Nat.le_refl _, fun i e he => by simp at he, .inl ⟨rfl, rfl⟩⟩
  · refine ⟨some ⟨b, 0, none⟩, cap, rfl, hnc, fun i el he => ⟨(hv i el he).1, fun j s hs => ?_⟩, .inr ⟨⟨vals, ho⟩, hb⟩⟩
    obtain ⟨c, h1, h2⟩ := (hv i el he).2 j s hs
    have hcell := ho.cells (g := b) rfl _ _ h1
    rw [add_at] at hcell
    exact ⟨b, 0, c, rfl, hb b rfl, by rw [hcell], h2⟩

theorem RowAt.mono {ρ ρ' : Names} {w w' : World} {z : Nat} {es : List (List S)} {vals : List Value} {N R : Nat → Prop} (k : Kept ρ ρ' w w' N R) (h : RowAt B ρ w z es vals) : RowAt B ρ' w' z es vals :=
  fun i e he => ⟨(h i e he).1, fun j s hs => by obtain ⟨c, h1, h2⟩ := (h i e he).2 j s hs; exact ⟨c, h1, k.pl h2⟩⟩

theorem Rel.row (hr : Rel B ρ st a w) (d : Nat) {e z cap : Nat} {es : List (List S)} {arr : Array Value} (hz : 0 < z) (hs : arr.size = cap * z) (hn : es.length ≤ cap) (hm : cap ≤ maxLen)
    (hv : RowAt B ρ w z es arr.toList) :
    Rel B (ρ.set d (some w.heap.size)) ((st.kill d).put (some d) (.one (.sl (.own d e) z es))) (a.put (some d) (.slice (some ⟨w.heap.size, 0, none⟩) es.length cap)) (w.alloc (.cells arr e)) := by
  have tn := turns_alloc hr d (.cells arr e)
  have k := hr.kept tn
  refine (hr.grow d _ tn).put (some d) ?_
  refine rep_own (n := 0) (vals := arr.toList.take (es.length * z)) ⟨?_, .inr ⟨w.heap.size, cap, arr, rfl, Nat.zero_le _, heap_alloc_new w _, hn, hm, hs, rfl⟩⟩ hz (fun b hb => ?_) ?_
  · simp only [List.length_take, Array.length_toList, hs]
    exact Nat.min_eq_left (Nat.mul_le_mul_right _ hn)
  · cases hb; exact Names.set_same _ _ _
  · refine RowAt.mono k fun i el he => ⟨(hv i el he).1, fun j s hj => ?_⟩
    obtain ⟨c, h1, h2⟩ := (hv i el he).2 j s hj
    refine ⟨c, ?_, h2⟩
    have hi : i < es.length := (List.getElem?_eq_some_iff.1 he).1
    have hj' : j < z := by have := (List.getElem?_eq_some_iff.1 hj).1; rw [(hv i el he).1] at this; exact this
    rw [List.getElem?_take, if_pos]
    · exact h1
    · have : (i + 1) * z ≤ es.length * z := Nat.mul_le_mul_right _ hi
      rw [Nat.succ_mul] at this
      omega

/-! ### append -/
theorem news_of {t : Tag} {z : Nat} {es : List (List S)} {v : Value} (h : RepT B ρ w (.one (.sl t z es)) v) (hz : 0 < z) :
    ∃ b c, v = .slice b es.length c ∧ (es ≠ [] → ∃ ad, b = some ad ∧ ∃ news : List Value, news.length = es.length * z ∧ (∀ (j : Nat) (u : Value), news[j]? = some u → w.cell? (ad.add j) = some u) ∧
      (∀ u ∈ news, u.oneCell' = true) ∧ RowAt B ρ w z es news) := by
  obtain ⟨b, c, hv, hlc, hes, hroom⟩ := rep_sl h
  refine ⟨b, c, hv, fun hne => ?_⟩
  -- the cell at a place
  have cell : ∀ q, q < es.length * z → ∃ bb o cc s, b = some ⟨bb, o, none⟩ ∧ w.cell? ⟨bb, o + q, none⟩ = some cc ∧ Pl (Zs B ρ) w s cc ∧ (es.getD (q / z) []).getD (q % z) .un = s := by
    intro q hq
    have hi : q / z < es.length := Nat.div_lt_of_lt_mul (by rwa [Nat.mul_comm] at hq)
    obtain ⟨hl, hc⟩ := hes (q / z) es[q / z] (List.getElem?_eq_getElem hi)
    have hj : q % z < es[q / z].length := by rw [hl]; exact Nat.mod_lt _ hz
    obtain ⟨bb, o, cc, hb, _, hcell, hp⟩ := hc (q % z) es[q / z][q % z] (List.getElem?_eq_getElem hj)
    refine ⟨bb, o, cc, _, hb, ?_, hp, by simp [List.getD_eq_getElem?_getD, List.getElem?_eq_getElem hi, List.getElem?_eq_getElem hj]⟩
    rw [show o + q = o + (q / z * z + q % z) by rw [Nat.mul_comm, Nat.div_add_mod]]
    exact hcell
  have hpos : 0 < es.length * z := Nat.mul_pos (by cases es <;> simp_all) hz
  obtain ⟨bb, o, _, _, hb, _⟩ := cell 0 hpos
  refine ⟨_, hb, (List.range (es.length * z)).map fun q => (w.cell? ⟨bb, o + q, none⟩).getD undef, by simp, fun j u hj => ?_, fun u hu => ?_, fun i el he => ⟨(hes i el he).1, fun j s hs => ?_⟩⟩
  · have hlt : j < es.length * z := by have := (List.getElem?_eq_some_iff.1 hj).1; simpa using this
    obtain ⟨bb', o', cc, _, hb', hcell, _⟩ := cell j hlt
    rw [hb] at hb'; cases hb'
    have hu : (w.cell? ⟨bb, o + j, none⟩).getD undef = u := by simpa [List.getElem?_map, List.getElem?_range hlt] using hj
    rw [add_at, hcell, ← hu, hcell]; rfl
  · simp only [List.mem_map, List.mem_range] at hu
    obtain ⟨q, hq, rfl⟩ := hu
    obtain ⟨bb', o', cc, _, hb', hcell, hp, _⟩ := cell q hq
    rw [hb] at hb'; cases hb'
    rw [hcell]; exact hp.one
  · obtain ⟨hl, hc⟩ := hes i el he
    obtain ⟨bb', o', cc, hb', _, hcell, hp⟩ := hc j s hs
    rw [hb] at hb'; cases hb'
    have hi : i < es.length := (List.getElem?_eq_some_iff.1 he).1
    have hj : j < z := by have := (List.getElem?_eq_some_iff.1 hs).1; rwa [hl] at this
    have hlt : i * z + j < es.length * z := by
      have : (i + 1) * z ≤ es.length * z := Nat.mul_le_mul_right _ hi
      rw [Nat.succ_mul] at this
      omega
    exact ⟨cc, by simp [List.getElem?_map, List.getElem?_range hlt, hcell], hp⟩

theorem run_append_none {t ty e : TypeId} {i : TypeInfo} (ht : P.underlying t = some (.slice e)) (hi : P.info? e = some i) (b b' : Option Addr) (n c c' : Nat) (hnc : n ≤ c) :
    (Builtin.append_ #[t, t] ty #[.slice b n c, .slice b' 0 c']).run P w = .ok (.slice b n c) w := by
  cases b <;> cases b' <;> simp [Builtin.append_, run_underlying ht, sizeOf, typeInfo, hi, Builtin.lenOf, hnc, Builtin.firstCells, loadCells, loadCellsFrom, storeCells]
theorem run_append_zero (t ty e : TypeId) (i : TypeInfo) (z : Value) (ht : P.underlying t = some (.slice e)) (hi : P.info? e = some i) (hz : i.zero = some z)
    (b : Option Addr) (ad : Addr) (n c : Nat) (news : List Value) (hl : news.length = n * i.size) (hnews : ∀ j v, news[j]? = some v → w.cell? (ad.add j) = some v)
    (h0 : 0 < n) (h63 : (n : Int) ≤ 9223372036854775807) (h48 : n * i.bytes ≤ 281474976710656) :
    (Builtin.append_ #[t, t] ty #[.slice b 0 0, .slice (some ad) n c]).run P w =
      .ok (.slice (some ⟨w.heap.size, 0, none⟩) n (grownCap w n 0 e)) (w.drew.alloc (.cells (news.toArray ++ Builtin.zeroCells z.cells (grownCap w n 0 e - n)) e)) := by
  have hn : n ≠ 0 := by omega
  have h63' : ¬ (9223372036854775807 < (n : Int)) := by omega
  have h48' : ¬ (281474976710656 < Builtin.nextslicecap n 0 * i.bytes) := by rw [nextslicecap_zero h0]; omega
  have hf := run_firstCells_some (P := P) w.drew i.size n ad n c news hl (by simpa using hnews)
  have hb : (Builtin.firstCells i.size 0 (.slice b 0 0)).run P w.drew = .ok #[] w.drew := by cases b <;> simp [Builtin.firstCells, loadCells, loadCellsFrom]
  simp [Builtin.append_, run_underlying ht, sizeOf, typeInfo, zeroValue, hi, hz, Builtin.lenOf, hn, h63', h48', Question.forced, hb, hf, newRow, grownCap]

theorem RowAt.append {ρ : Names} {w : World} {z : Nat} {es es' : List (List S)} {vals news : List Value} (h : RowAt B ρ w z es vals) (h' : RowAt B ρ w z es' news) (hl : vals.length = es.length * z) :
    RowAt B ρ w z (es ++ es') (vals ++ news) := by
  intro i e he
  rw [List.getElem?_append] at he
  split at he
  · rename_i hi
    refine ⟨(h i e he).1, fun j s hs => ?_⟩
    obtain ⟨c, h1, h2⟩ := (h i e he).2 j s hs
    have := (List.getElem?_eq_some_iff.1 h1).1
    exact ⟨c, by rw [List.getElem?_append, if_pos this]; exact h1, h2⟩
  · rename_i hi
    refine ⟨(h' _ e he).1, fun j s hs => ?_⟩
    obtain ⟨c, h1, h2⟩ := (h' _ e he).2 j s hs
    refine ⟨c, ?_, h2⟩
    have hle : es.length * z ≤ i * z := Nat.mul_le_mul_right _ (by omega)
    rw [List.getElem?_append, if_neg (by omega), hl, show i * z + j - es.length * z = (i - es.length) * z + j by rw [Nat.sub_mul]; omega]
    exact h1

/-- Two names turn: the one that is appended to, and the one that the result gets. -/
def St.kill2 (st : St) (x d : Nat) : St := (st.kill x).kill d

/-- append to a row of the call's own. -/
theorem Rel.append (hr : Rel B ρ st a w) {t ty e z by_ : Nat} (ht : td P t = .slice e z by_) {cells0 : List S} (hz0 : tzero P e = some cells0) (hzl : cells0.length = z) (hz : 0 < z)
    {x d : Nat} {es es' : List (List S)} {vs vx : Value} {tx : Tag} (hs : RepT B ρ w (.one (.sl (.own x e) z es)) vs) (hx : RepT B ρ w (.one (.sl tx z es')) vx)
    (hb : (es.length + es'.length) * by_ ≤ 140737488355328) (hm : es.length + es'.length ≤ 9223372036854775807) :
    ∃ v' ρ' w', (Builtin.append_ #[t, t] ty #[vs, vx]).run P w = .ok v' w' ∧ Rel B ρ' (((st.kill x).kill d).put (some d) (.one (.sl (.own d e) z (es ++ es')))) (a.put (some d) v') w' := by
  obtain ⟨hu, i, hi, hsz, hby⟩ := td_slice ht
  subst hsz; subst hby
  obtain ⟨zv, hzr, hzs, _, i', hi', hzz⟩ := tzero_run (P := P) hz0 w B ρ
  rw [hi] at hi'; cases hi'
  obtain ⟨b, c, hvs, hlc, hes, hroom⟩ := rep_sl hs
  obtain ⟨b', c', hvx, hnews⟩ := news_of hx hz
  -- what remains, once the run and the new names are known
  have fin : ∀ (v' : Value) (w' : World) (row y : Option Nat), (Builtin.append_ #[t, t] ty #[vs, vx]).run P w = .ok v' w' → w.grownBy w' row →
      (∀ b0, row = some b0 → ρ x = some b0) → (y = row ∨ y = none ∨ ∃ b0, y = some b0 ∧ w.heap.size ≤ b0 ∧ b0 < w'.heap.size) →
      (∀ (k : Kept ρ (Names.set (ρ.set x none) d y) w w' (fun q => ¬ (q = x ∨ q = d)) (fun q => ¬ q = x)), RepT B (Names.set (ρ.set x none) d y) w' (.one (.sl (.own d e) i.size (es ++ es'))) v') →
      ∃ v' ρ' w', (Builtin.append_ #[t, t] ty #[vs, vx]).run P w = .ok v' w' ∧ Rel B ρ' (((st.kill x).kill d).put (some d) (.one (.sl (.own d e) i.size (es ++ es')))) (a.put (some d) v') w' := by
    intro v' w' row y hrun hg hown hat hrep
    have tn : Turns B ρ (Names.set (ρ.set x none) d y) w w' (fun q => q = x) (fun q => q = x ∨ q = d) := by
      refine ⟨hg.os, hg.tape, hg.output, hg.size, fun q hq hne => hg.block q hq fun he => ?_, fun q hq => ?_, fun q q0 hq hq0 => ?_, fun q q' q0 hq hq' h1 h2 => ?_⟩
      · exact hne x rfl (hown q he.symm)
      · have h1 : q ≠ x := fun h => hq (.inl h)
        have h2 : q ≠ d := fun h => hq (.inr h)
        simp [Names.set, h1, h2]
      · by_cases hqd : q = d
        · subst hqd
          rw [Names.set_same] at hq0
          rcases hat with h | h | ⟨b0, h, hl, hlt⟩
          · rw [h] at hq0
            exact ⟨.inl ⟨x, .inl rfl, hown _ hq0⟩, Nat.lt_of_lt_of_le (hr.lt x _ (hown _ hq0)) hg.size⟩
          · rw [h] at hq0; cases hq0
          · rw [h] at hq0; cases hq0
            exact ⟨.inr hl, hlt⟩
        · have hqx : q = x := hq.resolve_right hqd
          subst hqx
          simp [Names.set, hqd] at hq0
      · have nx : ∀ q, q = x ∨ q = d → q ≠ d → (Names.set (ρ.set x none) d y) q = none := by
          intro q hq hqd
          have hqx := hq.resolve_right hqd
          subst hqx
          simp [Names.set, hqd]
        by_cases h3 : q = d
        · by_cases h4 : q' = d
          · rw [h3, h4]
          · rw [nx q' hq' h4] at h2; cases h2
        · rw [nx q hq h3] at h1; cases h1
    have k := hr.kept tn
    have hcut : Cuts (fun s => S.names x s || S.names d s) (fun q => q = x) (fun q => q = x ∨ q = d) :=
      ⟨fun s q hq hs' => by
        subst hq
        have : s.names q = true := by cases s <;> simp_all [S.reads, S.names]
        simp [this], fun s q hq hs' => by rcases hq with rfl | rfl <;> simp [hs']⟩
    refine ⟨v', Names.set (ρ.set x none) d y, w', hrun, ?_⟩
    have h1 := hr.turn tn hcut ((st.kill x).kill d).mem (fun q cs hq => by
      simp only [St.kill] at hq
      rw [mget_cut, mget_drop] at hq
      split at hq
      · simp at hq
      · rename_i hqd
        rw [mget_cut, mget_drop] at hq
        split at hq
        · simp at hq
        · rename_i hqx
          simp only [Option.map_map, Option.map_eq_some_iff] at hq
          obtain ⟨cs0, h0, rfl⟩ := hq
          refine .inl ⟨fun h => h.elim (fun h => hqx h.symm) (fun h => hqd h.symm), fun h => hqx h.symm, cs0, h0, ?_⟩
          simp only [Function.comp, List.map_map]
          apply List.map_congr_left
          intro s _
          exact S.cut_cut _ _ rfl s)
    have htm : ((st.kill x).kill d).tmps = st.tmps.map (T.cut (fun s => S.names x s || S.names d s)) := by
      simp only [St.kill, List.map_map]
      apply List.map_congr_left
      intro t _
      exact T.cut_cut _ _ rfl t
    have h2 : Rel B (Names.set (ρ.set x none) d y) ((st.kill x).kill d) a w' := by
      have : ((st.kill x).kill d) = ⟨st.tmps.map (T.cut (fun s => S.names x s || S.names d s)), ((st.kill x).kill d).mem⟩ := by rw [← htm]
      rw [this]; exact h1
    exact h2.put (some d) (hrep k)
  have hgrow0 : ∀ o, w.grownBy w o := fun o => ⟨rfl, rfl, rfl, Nat.le_refl _, fun _ _ _ => rfl⟩
  have hm' : es.length + es'.length ≤ maxLen := hm
  -- the elements that were there, wherever they lie
  have hrow0 : ∀ vals, w.ownsRow 0 e i.size vs es.length vals → RowAt B ρ w i.size es vals := by
    intro vals ho j el hj
    refine ⟨(hes j el hj).1, fun q s hq => ?_⟩
    obtain ⟨bb, o, cc, hb1, _, hcell, hp⟩ := (hes j el hj).2 q s hq
    rcases ho.2 with ⟨h1, h2⟩ | ⟨b1, cap, cur, h1, _, hh, _, _, hcs, htk⟩
    · have : es = [] := List.eq_nil_of_length_eq_zero h2
      subst this
      simp at hj
    · rw [hvs] at h1
      injection h1 with h1 _ _
      rw [hb1] at h1
      injection h1 with h1
      injection h1 with h1 h3 _
      subst h1; subst h3
      have hj1 : j < es.length := (List.getElem?_eq_some_iff.1 hj).1
      have hq1 : q < i.size := by have := (List.getElem?_eq_some_iff.1 hq).1; rw [(hes j el hj).1] at this; exact this
      have hlt : j * i.size + q < es.length * i.size := by
        have : (j + 1) * i.size ≤ es.length * i.size := Nat.mul_le_mul_right _ hj1
        rw [Nat.succ_mul] at this
        omega
      refine ⟨cc, ?_, hp⟩
      rw [← htk, List.getElem?_take, if_pos hlt]
      simpa [World.cell?, hh] using hcell
  by_cases hne : es' = []
  · -- nothing is appended
    subst hne
    have hrun := run_append_none (P := P) (w := w) (t := t) (ty := ty) hu hi b b' es.length c c' hlc
    rw [show (Value.slice b' 0 c') = vx by rw [hvx]; rfl, ← hvs] at hrun
    rcases hroom with ⟨hc0, hn0⟩ | ⟨⟨vals, ho⟩, hb0⟩
    · refine fin vs w none none hrun (hgrow0 _) (fun _ h => by cases h) (.inl rfl) fun k => ?_
      have : es = [] := List.eq_nil_of_length_eq_zero hn0
      subst this
      exact ⟨b, c, hvs, hlc, fun q el hq => by simp at hq, .inl ⟨hc0, rfl⟩⟩
    · rw [← hvs] at ho hb0
      refine fin vs w vs.ownBlock vs.ownBlock hrun (hgrow0 _) hb0 (.inl rfl) fun k => ?_
      rw [List.append_nil]
      exact rep_own (n := 0) ho hz (fun q hq => by rw [Names.set_same]; exact hq) ((hrow0 vals ho).mono k)
  · obtain ⟨ad, hb1, news, hnl, hnc, hn1, hnr⟩ := hnews hne
    have hpos : 0 < es'.length := by cases es' <;> simp_all
    rw [hb1] at hvx
    rcases hroom with ⟨hc0, hn0⟩ | ⟨⟨vals, ho⟩, hb0⟩
    · -- there was no room at all
      have : es = [] := List.eq_nil_of_length_eq_zero hn0
      subst this
      subst hc0
      simp only [List.length_nil, Nat.zero_add] at hb hm hm' hvs
      have hrun := run_append_zero (P := P) (w := w) t ty e i zv hu hi hzz b ad es'.length c' news hnl hnc hpos (by omega) (by omega)
      rw [← hvx, ← hvs] at hrun
      have hcap := grownCap_le_maxLen w es'.length 0 e hm'
      have hge := grownCap_ge w es'.length 0 e
      refine fin _ _ none (some w.heap.size) hrun ⟨rfl, rfl, rfl, by simp, fun q hq _ => heap_alloc_old w.drew _ q hq⟩ (fun _ h => by cases h) (.inr (.inr ⟨_, rfl, Nat.le_refl _, by simp⟩)) fun k => ?_
      rw [List.nil_append]
      refine rep_own (n := 0) (vals := news) ⟨hnl, .inr ⟨w.heap.size, grownCap w es'.length 0 e, _, rfl, Nat.zero_le _, heap_alloc_new w.drew _, hge, hcap, ?_, ?_⟩⟩ hz (fun q hq => by cases hq; exact Names.set_same _ _ _) (hnr.mono k)
      · simp only [Array.size_append, List.size_toArray, size_zeroCells, hzs, hzl, hnl, ← Nat.add_mul]
        congr 1; omega
      · simp only [Array.toList_append, ← hnl]
        exact List.take_left
    · rw [← hvs] at ho hb0
      obtain ⟨v', w', hrun, ho', hg, _, hat⟩ := run_append_own_at (P := P) w 0 t ty e i zv i.size i.bytes hu hi hzz rfl rfl (by omega) hz vs es.length vals ho ad es'.length c' news hnl hnc hn1 hm' hb (Nat.zero_le _)
      rw [← hvx] at hrun
      have hlt : ∀ b0, v'.ownBlock = some b0 → b0 < w'.heap.size := fun b0 h => (ho'.lt b0 h).2
      refine fin v' w' vs.ownBlock v'.ownBlock hrun hg hb0 (hat.imp id fun h => .inr ⟨_, h, Nat.le_refl _, hlt _ h⟩) fun k => ?_
      have hlen : (es ++ es').length = es.length + es'.length := List.length_append
      refine rep_own (n := 0) (vals := vals ++ news) (by rw [hlen]; exact ho') hz (fun q hq => by rw [Names.set_same]; exact hq) ?_
      exact ((hrow0 vals ho).append hnr ho.1).mono k

theorem rep_zero_own {z z' e d : Nat} {es : List (List S)} {v : Value} (h : RepT B ρ w (.one (.sl .zero z es)) v) : es = [] ∧ RepT B ρ w (.one (.sl (.own d e) z' [])) v := by
  obtain ⟨b, c, hv, hlc, hes, hc, hn⟩ := rep_sl h
  have : es = [] := List.eq_nil_of_length_eq_zero hn
  subst this
  exact ⟨rfl, b, c, hv, hlc, fun i e he => by simp at he, .inl ⟨hc, rfl⟩⟩

/-! ### A literal row, a made row -/
theorem repL_un {arr : Array Value} {n : Nat} (hs : arr.size = n) (h : ∀ v ∈ arr.toList, v.oneCell' = true) : RepL B ρ w (List.replicate n .un) arr.toList := by
  intro j s hj
  rw [List.getElem?_replicate] at hj
  split at hj
  · rename_i hlt
    cases hj
    have hlt' : j < arr.toList.length := by simpa [hs] using hlt
    exact ⟨arr.toList[j], List.getElem?_eq_getElem hlt', h _ (List.getElem_mem hlt')⟩
  · cases hj

theorem rowAt_chunks {z n : Nat} {c : List S} {arr : Array Value} (hl : c.length = n * z) (hr : RepL B ρ w c arr.toList) (hp : c.all S.plain = true) :
    RowAt B ρ w z (chunks z n (c.map S.lay)) arr.toList := by
  intro i e he
  obtain ⟨hi, rfl⟩ := chunks_at z n _ i e he
  have hb : i * z + z ≤ n * z := by
    have : (i + 1) * z ≤ n * z := Nat.mul_le_mul_right _ hi
    rwa [Nat.succ_mul] at this
  refine ⟨by simp; omega, fun j s hs => ?_⟩
  rw [List.getElem?_take] at hs
  split at hs
  · simp only [List.getElem?_drop, List.getElem?_map, Option.map_eq_some_iff] at hs
    obtain ⟨s0, hs0, rfl⟩ := hs
    obtain ⟨v, h1, h2⟩ := hr _ s0 hs0
    exact ⟨v, h1, Pl.of_rep (List.all_eq_true.1 hp _ (List.mem_of_getElem? hs0)) h2⟩
  · cases hs

theorem scalar_one : ∀ {v : Value}, S.scalar v = true → v.oneCell' = true := by intro v h; cases v <;> first | rfl | (simp [S.scalar] at h)

theorem tzero_one {e : TypeId} {cells0 : List S} (h : tzero P e = some cells0) : ∃ zv i, P.info? e = some i ∧ i.zero = some zv ∧ zv.cells.size = cells0.length ∧ ∀ v ∈ zv.cells.toList, v.oneCell' = true := by
  unfold tzero at h
  split at h
  · rename_i v hv
    split at h
    · rename_i hall
      cases h
      simp only [Option.map_eq_some_iff] at hv
      obtain ⟨i, hi, hz⟩ := hv
      exact ⟨v, i, hi, hz, by simp, fun u hu => scalar_one ((Array.all_eq_true_iff_forall_mem.1 hall) u (by simpa using hu))⟩
    · cases h
  · cases h

theorem fillT_length (st : St) (g : Bool) (place : Nat → Option (Nat × Nat)) : ∀ (parts : List (Nat × Operand)) (cells : List S) (o : Prop) (c : List S),
    fillT st g place cells parts = some (o, c) → c.length = cells.length
  | [], cells, o, c, h => by simp only [fillT, Option.some.injEq, Prod.mk.injEq] at h; rw [h.2]
  | (j, x) :: r, cells, o, c, h => by
    simp only [fillT] at h
    split at h
    · rename_i off z0 ox v hp0 hx
      split at h
      · rename_i l hl
        split at h
        · rename_i hc
          split at h
          · rename_i o' c' hrec
            cases h
            rw [fillT_length st g place r _ _ _ hrec]
            simp
            omega
          · cases h
        · cases h
      · cases h
    · cases h

theorem Rel.lit (hr : Rel B ρ st a w) (hg : g = true) {t e z by_ len : Nat} (ht : td P t = .slice e z by_) {cells0 : List S} (hz0 : tzero P e = some cells0) (hzl : cells0.length = z) (hz : 0 < z)
    (hlen : len * z ≤ 16777216) {parts : Array (Nat × Operand)} {o : Prop} {c : List S} (hf : fillT st g (fun i => some (i * z, z)) (List.replicate (len * z) .un) parts.toList = some (o, c)) (ho : o)
    (hp : c.all S.plain = true) (d : Nat) :
    ∃ v' ρ' w', (Instr.buildSlice t len (parts.map fun (i, x) => (i, a.eval x))).run P w = .ok v' w' ∧
      Rel B ρ' ((st.kill d).put (some d) (.one (.sl (.own d e) z (chunks z len (c.map S.lay))))) (a.put (some d) v') w' := by
  obtain ⟨hu, i, hi, hsz, _⟩ := td_slice ht
  subst hsz
  obtain ⟨zv, i', hi', hzz, hzs, hone⟩ := tzero_one hz0
  rw [hi] at hi'; cases hi'
  -- the cells before the parts are laid in
  obtain ⟨zc, hzc, h10⟩ : ∃ zc : Array Value, (if len * i.size = 0 then pure #[] else do pure (← zeroValue e).cells : Sem (Array Value)).run P w = .ok zc w ∧
      ∀ v ∈ ((Array.range (len * i.size)).map (zc[· % zc.size]!)).toList, v.oneCell' = true := by
    by_cases h0 : len * i.size = 0
    · exact ⟨#[], by rw [if_pos h0]; rfl, fun v hv => by simp [h0] at hv⟩
    · refine ⟨zv.cells, by rw [if_neg h0]; simp [zeroValue, typeInfo, hi, hzz], fun v hv => ?_⟩
      simp only [Array.toList_map, List.mem_map] at hv
      obtain ⟨k, _, rfl⟩ := hv
      have hlt : k % zv.cells.size < zv.cells.size := Nat.mod_lt _ (by omega)
      rw [getElem!_pos zv.cells (k % zv.cells.size) hlt]
      exact hone _ (by simp)
  obtain ⟨out, h1, h2, h3⟩ := fill_rep hr hg _ parts.toList _ ((Array.range (len * i.size)).map (zc[· % zc.size]!)) o c hf ho (by simp) (repL_un (by simp) h10)
  have hcl : c.length = len * i.size := by rw [fillT_length _ _ _ _ _ _ _ hf]; simp
  have hparts : (parts.map fun (i, x) => (i, a.eval x)).toList = parts.toList.map fun (i, x) => (i, a.eval x) := by simp
  refine ⟨.slice (some ⟨w.heap.size, 0, none⟩) len len, ρ.set d (some w.heap.size), w.alloc (.cells out e), ?_, ?_⟩
  · have hnot : ¬ (len * i.size > 2 ^ 24) := by simpa using hlen
    simp only [Instr.buildSlice, Sem.run_bind, run_underlying hu, Result.andThen_ok, run_size P w hi]
    rw [if_neg hnot]
    have h1' : Instr.fill (fun j => some (j * i.size, i.size)) ((Array.range (len * i.size)).map (zc[· % zc.size]!)) ((parts.map fun (i, x) => (i, a.eval x)).toList) = some out := by rw [hparts]; exact h1
    by_cases h0 : len * i.size = 0
    · rw [if_pos h0] at hzc ⊢
      have : #[] = zc := by simpa using hzc
      subst this
      simp only [Sem.run_bind, Sem.run_pure, Result.andThen_ok]
      rw [h1']
      simp [newRow, newObj, Sem.run]
    · rw [if_neg h0] at hzc ⊢
      have hzv : (zeroValue e).run P w = .ok zv w := by simp [zeroValue, typeInfo, hi, hzz]
      simp only [Sem.run_bind, hzv, Sem.run_pure, Result.andThen_ok, Result.ok.injEq, and_true] at hzc ⊢
      rw [hzc, h1']
      simp [newRow, newObj, Sem.run]
  · have hn : (chunks i.size len (c.map S.lay)).length = len := chunks_length _ _ _
    have := hr.row d (e := e) (cap := len) (arr := out) (es := chunks i.size len (c.map S.lay)) hz (by omega) (by omega) (by
      have : len ≤ len * i.size := Nat.le_mul_of_pos_right _ hz
      simp only [maxLen]; omega) (rowAt_chunks hcl h3 hp)
    rw [hn] at this
    exact this

theorem Rel.made (hr : Rel B ρ st a w) {t e z by_ : Nat} (ht : td P t = .slice e z by_) {cells0 : List S} (hz0 : tzero P e = some cells0) (hp : cells0.all S.plain = true) (hzl : cells0.length = z) (hz : 0 < z)
    (kl kc : IntKind) {l c : Int} (h0 : 0 ≤ l) (hlc : l ≤ c) (hb : (by_ : Int) * c ≤ 281474976710656) (h63 : c ≤ 9223372036854775807) (d : Nat) :
    ∃ v' ρ' w', (Instr.makeSlice t (.int kl l) (.int kc c)).run P w = .ok v' w' ∧
      Rel B ρ' ((st.kill d).put (some d) (.one (.sl (.own d e) z (List.replicate l.toNat (cells0.map S.lay))))) (a.put (some d) v') w' := by
  obtain ⟨hu, i, hi, hsz, hby⟩ := td_slice ht
  subst hsz; subst hby
  obtain ⟨zv, hzr, hzs, hzrep, i', hi', hzz⟩ := tzero_run (P := P) hz0 w B ρ
  rw [hi] at hi'; cases hi'
  have hrun := run_make (P := P) w t e i zv hu hi hzz kl kc l c h0 hlc hb h63
  have hlen : (List.replicate l.toNat (cells0.map S.lay)).length = l.toNat := by simp
  have := hr.row d (e := e) (cap := c.toNat) (arr := madeCells zv.cells (c.toNat * i.size)) (es := List.replicate l.toNat (cells0.map S.lay)) hz (size_madeCells _ _) (by simp; omega) (by simp only [maxLen]; omega) (by
    intro q el hq
    rw [List.getElem?_replicate] at hq
    split at hq
    · rename_i hql
      cases hq
      refine ⟨by simpa using hzl, fun j s hj => ?_⟩
      simp only [List.getElem?_map, Option.map_eq_some_iff] at hj
      obtain ⟨s0, hs0, rfl⟩ := hj
      obtain ⟨v, h1, h2⟩ := hzrep j s0 hs0
      have hj : j < i.size := by have := (List.getElem?_eq_some_iff.1 hs0).1; omega
      refine ⟨v, ?_, Pl.of_rep (List.all_eq_true.1 hp _ (List.mem_of_getElem? hs0)) h2⟩
      have hlt : q * i.size + j < c.toNat * i.size := by
        have : (q + 1) * i.size ≤ c.toNat * i.size := Nat.mul_le_mul_right _ (by omega)
        rw [Nat.succ_mul] at this
        omega
      have hmod : (q * i.size + j) % zv.cells.size = j := by rw [hzs, hzl, Nat.mul_comm, Nat.mul_add_mod, Nat.mod_eq_of_lt hj]
      have hjlt : j < zv.cells.size := by omega
      simp only [madeCells, Array.toList_map, Array.toList_range, List.getElem?_map, List.getElem?_range hlt, Option.map_some, hmod]
      rw [getElem!_pos zv.cells j hjlt]
      rw [← h1]
      simp [hjlt]
    · cases hq)
  rw [hlen] at this
  exact ⟨_, _, _, hrun, this⟩

/-! ### A store into a local variable -/
def setAt (cs l : List S) (o : Nat) : List S := cs.take o ++ l ++ cs.drop (o + l.length)
theorem repL_set {cs l : List S} {cv lv : List Value} {o : Nat} (hc : RepL B ρ w cs cv) (hl : RepL B ρ w l lv) (hs : cv.length = cs.length) (hsl : lv.length = l.length) (ho : o + l.length ≤ cs.length) :
    RepL B ρ w (setAt cs l o) (cv.take o ++ lv ++ cv.drop (o + lv.length)) := by
  intro j s hj
  have hlen1 : (cv.take o).length = o := by simp; omega
  have hlen2 : (cs.take o).length = o := by simp; omega
  simp only [setAt, List.append_assoc] at hj ⊢
  rw [List.getElem?_append] at hj ⊢
  rw [hlen2] at hj
  rw [hlen1]
  split at hj
  · rename_i hjo
    rw [if_pos hjo]
    exact (hc.take o) j s hj
  · rename_i hjo
    rw [if_neg hjo]
    rw [List.getElem?_append] at hj ⊢
    rw [hsl]
    split at hj
    · rename_i hjl
      rw [if_pos hjl]
      exact hl _ s hj
    · rename_i hjl
      rw [if_neg hjl]
      exact (hc.drop _) _ s hj
def St.store (st : St) (x o : Nat) (l : List S) : St :=
  match mget st.mem x with
  | some cs => ⟨(st.wipe x).tmps, mset (st.wipe x).mem x (setAt (cs.map (·.cut (S.reads x))) (l.map (·.cut (S.reads x))) o)⟩
  | none => st

theorem RepL.of_vals {cs : List S} {arr : Array Value} (h : ∀ (j : Nat) (s : S), cs[j]? = some s → ∃ c, arr[j]? = some c ∧ RepS B ρ w s c) : RepL B ρ w cs arr.toList :=
  RepL.of_agg h

theorem Rel.write (hr : Rel B ρ st a w) {x o : Nat} {cs l : List S} (hm : mget st.mem x = some cs) {lv : List Value} (hl : RepL B ρ w l lv) (hsl : lv.length = l.length) (ho : o + l.length ≤ cs.length) :
    ∃ b w', ρ x = some b ∧ (∀ v ∈ lv, v.oneCell' = true) ∧ (storeCells ⟨b, o, none⟩ lv).run P w = .ok () w' ∧ Rel B ρ (st.store x o l) a w' := by
  obtain ⟨b, arr, ty, hb, hh, hs, hc⟩ := hr.mem x cs hm
  have hone : ∀ v ∈ lv, v.oneCell' = true := by
    intro v hv
    obtain ⟨j, hj⟩ := List.getElem?_of_mem hv
    have hjl : j < l.length := by have := (List.getElem?_eq_some_iff.1 hj).1; omega
    obtain ⟨c, h1, h2⟩ := hl j l[j] (List.getElem?_eq_getElem hjl)
    rw [hj] at h1; cases h1
    exact h2.one
  have hrun := run_storeCells_at P b o ty lv 0 arr w hh (by omega) hone
  simp only [Nat.add_zero] at hrun
  refine ⟨b, _, hb, hone, hrun, ?_⟩
  have tn : Turns B ρ ρ w (w.setRow b (arr.toList.take o ++ lv ++ arr.toList.drop (o + lv.length)).toArray) (fun q => q = x) (fun _ => False) :=
    ⟨rfl, rfl, rfl, by simp, fun q hq hne => setRow_other w b q _ (fun e => hne x rfl (by rw [hb, e])), fun _ _ => rfl, fun _ _ h => h.elim, fun _ _ _ h => h.elim⟩
  have hcut : Cuts (S.reads x) (fun q => q = x) (fun _ => False) := ⟨fun s q hq hs => by subst hq; exact hs, fun _ _ h => h.elim⟩
  have k := hr.kept tn
  have hst : st.store x o l = ⟨st.tmps.map (T.cut (S.reads x)), mset (mcut (S.reads x) st.mem) x (setAt (cs.map (·.cut (S.reads x))) (l.map (·.cut (S.reads x))) o)⟩ := by
    simp only [St.store, hm, St.wipe]
  rw [hst]
  refine hr.turn tn hcut _ (fun q cs' hq => ?_)
  rw [mget_set] at hq
  split at hq
  · rename_i e; subst e
    cases hq
    right
    have hcutL : ∀ (u : List S) (uv : List Value), RepL B ρ w u uv → RepL B ρ (w.setRow b (arr.toList.take o ++ lv ++ arr.toList.drop (o + lv.length)).toArray) (u.map (·.cut (S.reads x))) uv := by
      intro u uv hu j s hj
      simp only [List.getElem?_map, Option.map_eq_some_iff] at hj
      obtain ⟨s0, hs0, rfl⟩ := hj
      obtain ⟨c, h1, h2⟩ := hu j s0 hs0
      exact ⟨c, h1, k.cutS hcut h2⟩
    have := repL_set (hcutL cs arr.toList (RepL.of_agg hc)) (hcutL l lv hl) (by simpa using hs) (by simpa using hsl) (by simpa using ho)
    refine ⟨b, _, ty, hb, setRow_heap w b arr _ ty _ hh, ?_, fun j s hj => ?_⟩
    · simp only [setAt, List.size_toArray, List.length_append, List.length_take, List.length_drop, Array.length_toList, List.length_map]
      omega
    · obtain ⟨c, h1, h2⟩ := this j s hj
      exact ⟨c, by simpa using h1, h2⟩
  · rename_i e
    left
    rw [mget_cut] at hq
    simp only [Option.map_eq_some_iff] at hq
    obtain ⟨cs0, h0, rfl⟩ := hq
    exact ⟨fun h => h.elim, fun h => e h.symm, cs0, h0, rfl⟩
end
end Go.PS
