/- The members of a committee, one by one: the iterator, and the functions that range over it. -/
import Derived.Test.YtngjhimhmpbofaaJb
import Derived.RangeFuncNested
import Derived.RangeFuncBound
import Derived.RangeFuncCalls
import Derived.RangeFuncLeaves
import Derived.RangeFuncBox
import Derived.Maps.AppendAt
import Derived.Shelf.Abstract
import Derived.Shelf.RegionOpen
import Derived.WalkKit
import Derived.OwnWalkIn
import Derived.TacticsInMore
import Derived.LoopNIn
import Derived.LoopIn
set_option linter.unusedSimpArgs false
set_option linter.unusedVariables false
set_option maxRecDepth 100000
namespace Go.Proofs.Ytngjhimhmpbofaa
open Go Go.PS Go.RowKit Go.Shelf
attribute [local go_sem] Oper.semAt_some
/-- Has, said of the world. -/
theorem has_calls (m i : Int) (w : World) : Calls Try.prog 14 #[.int .i64 m, .int .i64 i] w fun e w' => e = .returned (.bool (hasI m i)) ∧ w.grownBy w' none := by
  have h := (sim14 m i).2 w (fun _ => none) [.int .i64 m, .int .i64 i] (fun i b h => by cases h) ⟨_, _, rfl, rfl, _, _, rfl, rfl, rfl⟩
  refine Calls.mono h fun e w' ⟨v, ρ', he, hv, hg⟩ => ?_
  obtain ⟨k1, k2, k3, k4, k5⟩ := hg.keeps
  cases hv
  exact ⟨he, k1, k2, k3, k4, fun b hb _ => k5 b hb (fun h => h)⟩
def HasIn (F : Fence) : Prop := ∀ (n : Nat) (m i : Int) (w : World), CallsIn F n Try.prog 14 #[.int .i64 m, .int .i64 i] w fun e w' => e = .returned (.bool (hasI m i)) ∧ w.grownBy w' none
theorem has_in : HasIn Fence.wide := fun n m i w => callsIn_wide.2 (has_calls m i w)

/-- The members below k. -/
def upto (m : Int) (k : Nat) : List (Fin 10) := ((List.finRange 10).take k).filter fun i => hasI m i.val
theorem upto_length (m : Int) (k : Nat) : (upto m k).length ≤ k :=
  Nat.le_trans (List.length_filter_le _ _) (List.length_take_le _ _)
theorem upto_step (m : Int) (k : Nat) (h : k < 10) : upto m (k + 1) = if hasI m k then upto m k ++ [⟨k, h⟩] else upto m k := by
  unfold upto
  have ht : (List.finRange 10).take (k + 1) = (List.finRange 10).take k ++ [⟨k, h⟩] := by
    rw [List.take_add_one, List.getElem?_eq_getElem (by simpa using h)]
    simp
  rw [ht, List.filter_append]
  by_cases hh : hasI m k = true
  · simp [hh]
  · simp [hh]
def encM (x : Fin 10) : Value := .int .i64 (x.val : Int)

theorem members_in (F : Fence) (h57 : F.fn 57) (hro : F.round = none) (n : Nat) (m : Int) (w : World) :
    CallsIn F n Try.prog 57 #[.int .i64 m] w fun e w' => e = .returned (.func (.func 58) #[] #[.pointer (some ⟨w.heap.size, 0, none⟩)]) ∧ w' = w.alloc (.cells #[.int .i64 m] 22) := by
  refine callsIn_of_wp Try.func57 rfl h57 ?_ hro
  simp only [Try.ntmps57, List.size_toArray, List.length_cons, List.length_nil, Nat.reduceAdd, Nat.reduceSub, Array.replicate_succ, Array.replicate_zero, List.push_toArray, List.append_toArray, List.nil_append, List.cons_append]
  gi_wp2
  go_ret
  exact ⟨rfl, rfl⟩

/-- What a round keeps of the iterator's own variable. -/
def KeepsVar (b : Nat) (W W' : World) : Prop := ∀ v, W.cell? ⟨b, 0, none⟩ = some v → W'.cell? ⟨b, 0, none⟩ = some v

set_option maxHeartbeats 1000000 in
theorem each_in (F : Fence) (h14 : F.fn 14) (h58 : F.fn 58) (hro : F.round = none) (hhas : HasIn F) (n : Nat) (hn : 1 ≤ n) (l Bm : Nat) (m : Int) (J Jx : List (Fin 10) → World → Prop)
    (hY : ∀ pre x W, J pre W → pre.length < 10 → YieldAt F (n - 1) Try.prog l #[encM x] W fun e W' =>
      (e = .returned (.bool true) ∧ J (pre ++ [x]) W' ∧ KeepsVar Bm W W') ∨ (e = .returned (.bool false) ∧ Jx (pre ++ [x]) W'))
    (W : World) (hJ : AbidesFrom W.heap.size J) (hc : W.cell? ⟨Bm, 0, none⟩ = some (.int .i64 m)) (h0 : J [] W) :
    CallsIn F n Try.prog 58 #[.func (.yield l) #[] #[], .pointer (some ⟨Bm, 0, none⟩)] W fun e W' => (∃ v, e = .returned v) ∧
      ((∃ ys, ys = upto m 10 ∧ J ys W') ∨ (∃ pre, (∃ (k : Nat) (h : k < 10), hasI m k = true ∧ pre = upto m k ++ [⟨k, h⟩]) ∧ Jx pre W')) := by
  refine callsIn_of_wp Try.func58 rfl h58 ?_ hro
  simp only [Try.ntmps58, List.size_toArray, List.length_cons, List.length_nil, Nat.reduceAdd, Nat.reduceSub, Array.replicate_succ, Array.replicate_zero, List.push_toArray, List.append_toArray, List.nil_append, List.cons_append]
  gi_wp2
  gi_loopw [4] (fun p wr => ∃ (k : Nat), k ≤ 10 ∧ p = .int .i64 k ∧ wr.cell? ⟨Bm, 0, none⟩ = some (.int .i64 m) ∧ J (upto m k) wr)
    (fun p wr => 10 - (intOf p).toNat)
  case atStart =>
    exact ⟨0, by omega, rfl, hc, h0⟩
  case round =>
    obtain ⟨k, hk, rfl, hcr, hJs⟩ := hrel
    rcases Nat.lt_or_ge k 10 with hlt | hge
    · have hl : (k : Int) < 10 := by omega
      have hw : IntKind.i64.wrap ((k : Int) + 1) = ((k + 1 : Nat) : Int) := by rw [wrap_id] <;> (try unfold i64ok) <;> omega
      cases hh : hasI m k with
      | false =>
        have hu : upto m (k + 1) = upto m k := by rw [upto_step m k hlt, hh]; rfl
        gi_wp2_with (gi_at_call 14; refine (hhas (n - 1) m k wr).mono ?_; rintro e w2 ⟨rfl, hg2⟩; rw [hh])
        refine ⟨fun _ h => (by cases h), ?_⟩
        gi_wp2
        have hc2 := cell_kept hcr hg2 (fun r e => by cases e)
        have hJ2 := hJ (upto m k) wr w2 none hJs hg2 (fun r e => by cases e)
        go_roundw
        case rel => exact ⟨k + 1, by omega, by simp, hc2, by rw [hu]; exact hJ2⟩
        case measure =>
          simp [intOf]; omega
      | true =>
        have hu : upto m (k + 1) = upto m k ++ [⟨k, hlt⟩] := by rw [upto_step m k hlt, hh]; rfl
        gi_wp2_with (gi_at_call 14; refine (hhas (n - 1) m k wr).mono ?_; rintro e w2 ⟨rfl, hg2⟩; rw [hh]; have hJ2 := hJ (upto m k) wr w2 none hJs hg2 (fun r e => by cases e); obtain ⟨fn, tmps, assign, body, hy, hR⟩ := hY (upto m k) ⟨k, hlt⟩ w2 hJ2 (Nat.lt_of_le_of_lt (upto_length m k) hlt); dsimp only [encM] at hy)
        have hc2 := cell_kept hcr hg2 (fun r e => by cases e)
        refine hR.mono ?_
        rintro e W3 (⟨rfl, hJ3, hk3⟩ | ⟨rfl, hJx3⟩)
        · gi_wp2
          go_roundw
          case rel => exact ⟨k + 1, by omega, by simp, hk3 _ hc2, by rw [hu]; exact hJ3⟩
          case measure => simp [intOf]; omega
        · gi_wp2
          refine bodyPost_ret (results_none rfl _ _ _) rfl ?_
          exact ⟨⟨_, rfl⟩, .inr ⟨upto m k ++ [⟨k, hlt⟩], ⟨k, hlt, hh, rfl⟩, hJx3⟩⟩
    · have hl : ¬ (k : Int) < 10 := by omega
      obtain hk10 : k = 10 := by omega
      gi_wp2
      go_end0
      exact ⟨⟨_, rfl⟩, .inl (hk10 ▸ hJs)⟩

theorem members_stops (F : Fence) (h14 : F.fn 14) (h58 : F.fn 58) (hro : F.round = none) (hhas : HasIn F) (n : Nat) (hn : 1 ≤ n) (Bm : Nat) (m : Int) (w : World) (hBm : Bm < w.heap.size)
    (hc : w.cell? ⟨Bm, 0, none⟩ = some (.int .i64 m)) :
    SeqStopsK F n Try.prog 58 #[.pointer (some ⟨Bm, 0, none⟩)] (fun x : Fin 10 => #[encM x]) (KeepsVar Bm) (fun ys => ys = upto m 10)
      (fun pre => ∃ (k : Nat) (h : k < 10), hasI m k = true ∧ pre = upto m k ++ [⟨k, h⟩]) 10 w := fun l J Jx W hW hJ _ hY h0 =>
  each_in F h14 h58 hro hhas n hn l Bm m J Jx hY W hJ ((hW.cell (p := ⟨Bm, 0, none⟩) hBm).trans hc) h0
theorem keepsVar_t {b : Nat} {A B C : World} (h : KeepsVar b A B) (k : KeepsVar b B C) : KeepsVar b A C := fun v hv => k v (h v hv)
theorem keepsVar_b {b : Nat} {w : World} (hb : b < w.heap.size) (W : World) (l : Nat) (o o' : Obj) (hl : w.heap.size ≤ l) (h : W.heap[l]? = some o) (_ : o.isCells = false) (_ : o.isWalk = false) : KeepsVar b W (W.putObj l o') :=
  fun v hv => by
    have : (W.putObj l o').heap[b]? = W.heap[b]? := World.putObj_heap_other (by omega)
    simp only [World.cell?, this] at hv ⊢
    exact hv
theorem boxed_keeps {W W' : World} {b : Nat} {t : TypeId} {v : Value} (h : Boxed W b t v) (h' : Boxed W' b t v) : KeepsVar b W W' := fun u hu => by
  rw [h.cell] at hu; rw [h'.cell]; exact hu

theorem info3 : (Try.prog.info? 3).map (fun i => (i.zero, i.size, i.bytes)) = some (some (.int .i64 0), 1, 8) := by kernel_rfl

set_option maxHeartbeats 2000000 in
theorem ids_in (F : Fence) (h14 : F.fn 14) (h54 : F.fn 54) (h57 : F.fn 57) (h58 : F.fn 58) (hro : F.round = none) (hhas : HasIn F) (n : Nat) (hn : 3 ≤ n) (m : Int) (w : World) :
    CallsIn F n Try.prog 54 #[.int .i64 m] w fun e W' => ∃ v, e = .returned v ∧ W'.ownsRow w.heap.size 3 1 v (upto m 10).length ((upto m 10).map encM) ∧ Below w.heap.size w W' := by
  have h1 : 1 ≤ n := by omega
  obtain ⟨i0, hi, hz0, hz1, hz2⟩ := info_parts info3
  refine callsIn_of_wp_marks Try.func54 rfl h54 ?_ hro
  simp only [Try.ntmps54, List.size_toArray, List.length_cons, List.length_nil, Nat.reduceAdd, Nat.reduceSub, Array.replicate_succ, Array.replicate_zero, List.push_toArray, List.append_toArray, List.nil_append, List.cons_append]
  gi_wp2_with (gi_at_call 57; refine (members_in F h57 hro (n - 1) _ _).mono ?_; rintro e w' ⟨rfl, rfl⟩)
  have hs : Boxed (w.alloc (.cells #[.slice none 0 0] 52)) w.heap.size 52 (.slice none 0 0) := Boxed.new w 52 _
  have hb : Boxed ((w.alloc (.cells #[.slice none 0 0] 52)).alloc (.cells #[.int .i64 m] 22)) (w.heap.size + 1) 22 (.int .i64 m) := by
    have := Boxed.new (w.alloc (.cells #[.slice none 0 0] 52)) 22 (.int .i64 m)
    rwa [World.size_alloc] at this
  have hB0 : Below w.heap.size w ((w.alloc (.cells #[.slice none 0 0] 52)).alloc (.cells #[.int .i64 m] 22)) := ((Below.refl _ w).alloc (Nat.le_refl _) _).alloc (by simp) _
  refine wpIn_rangeFunc_ownF hro h1 (gf := 58) (lb := #[.pointer (some ⟨w.heap.size + 1, 0, none⟩)]) rfl h58 (enters_of Try.func58 (by kernel_rfl) rfl)
    (members_stops F h14 h58 hro hhas (n - 1) (by omega) (w.heap.size + 1) m _ (by simp) hb.cell) keepsVar_t (keepsVar_b (by simp)) (Below.refl _ _) (fun _ => rfl)
    (fun pre W => ((∃ v, Boxed W w.heap.size 52 v ∧ W.ownsRow w.heap.size 3 1 v pre.length (pre.map encM) ∧ True) ∧ Boxed W (w.heap.size + 1) 22 (.int .i64 m)) ∧ Below w.heap.size w W)
    (fun _ _ _ => False)
    (OwnFrom.and (Own.from (fun s A B row hs hg hr => ⟨holdsRow_own w.heap.size w.heap.size 52 3 1 (fun pre : List (Fin 10) => pre.length) (fun pre => pre.map encM) (fun _ _ => True) s A B row hs.1 hg hr, boxed_own (w.heap.size + 1) 22 (fun _ : List (Fin 10) => Value.int .i64 m) s A B row hs.2 hg hr⟩) _) (ownFrom_below (Nat.le_refl _) (by simp; omega)))
    (fun _ _ _ _ _ hs _ _ => hs)
    ⟨⟨⟨_, hs.alloc _, World.ownsRow_nil _ _ _ _, trivial⟩, hb⟩, hB0⟩
    (fun x => { tmps := #[.int .i64 m, undef, .slice none 0 0, .pointer (some ⟨w.heap.size, 0, none⟩), .int .i64 (x.val : Int), .int .i64 m, .func (.func 58) #[] #[.pointer (some ⟨w.heap.size + 1, 0, none⟩)], .int .i64 (x.val : Int), undef, undef, undef, undef, undef], defers := [] }) ?assign ?body ?done ?stop
  case assign =>
    intro l x W K hK
    gi_wp2
    exact hK
  case body =>
    rintro l pre x W ⟨⟨⟨v, hv, hrow, _⟩, hbm⟩, hB⟩ hlen
    have hc := hv.cell
    gi_wp2_with (first
      | (gi_at_builtin; refine wpListIn_append_own _ rfl _ _ 52 rfl w.heap.size 3 i0 (.int .i64 0) 1 8 Try.underlying52 hi hz0 hz1 hz2 rfl (by decide) _ _ _ rfl (hrow.alloc _) ⟨W.heap.size, 0, none⟩ 1 1 [.int .i64 (x.val : Int)] rfl rfl (cell_one_new _ _ _) (by simp [Value.oneCell']) (by unfold maxLen; omega) (by omega) (by have := hB.size; simp; omega) ?_
         intro v' w1 hown' hgrow _
         obtain ⟨g', cap', rfl⟩ := ownsRow_succ hown'
         obtain ⟨hv1, hv2, hr2, hk2, hb2⟩ := hv.appended (by decide) hrow hB.size (Nat.le_refl _) hown' hgrow
         have hc1 := hv1.cell
         have hf1 := hv1.frozen
         have hbm1 : Boxed w1 (w.heap.size + 1) 22 (.int .i64 m) := (hbm.alloc _).kept hgrow (hbm.not_row (by decide) hrow))
      | gi_in)
    have hbm2 := hbm1.other (B' := w.heap.size) (by omega) (.slice (some ⟨g', 0, none⟩) (pre.length + 1) cap')
    exact ⟨hk2, boxed_keeps hbm hbm2, ⟨⟨_, hv2, by simpa [encM] using hr2, trivial⟩, hbm2⟩, hB.trans hb2⟩
  case done =>
    rintro D ys W hD rfl ⟨⟨⟨v, hv, hrow, _⟩, hbm⟩, hB⟩ hK
    have hc := hv.cell
    gi_wp2
    refine ⟨by simp, .inl ⟨_, _, rfl, run_takeDeferred hK, ?_⟩⟩
    exact ⟨_, results_tmp rfl _ _ _, v, rfl, ownsRow_putObj hrow _ hK rfl, hB.trans (belowK_b (w := w) (Nat.le_refl _) W D _ _ (by simp at hD; omega) hK rfl rfl)⟩
  case stop =>
    rintro D c pre W _ _ h _
    exact h.elim
end Go.Proofs.Ytngjhimhmpbofaa
