/- The lowest members of a committee: what the function that ranges over the iterator returns. -/
import Derived.Test.YtffdhbejffbfkaaC6c
set_option linter.unusedSimpArgs false
set_option linter.unusedVariables false
set_option maxRecDepth 100000
namespace Go.Proofs.Ytffdhbejffbfkaa
open Go Go.PS Go.RowKit Go.Shelf
attribute [local go_sem] Oper.semAt_some
/-- The mask of the members. -/
def maskN (pre : List (Fin 10)) : Nat := pre.foldl (fun o i => o ||| 2 ^ i.val) 0
def outOf (pre : List (Fin 10)) : Int := (maskN pre : Nat)
theorem maskN_snoc (pre : List (Fin 10)) (x : Fin 10) : maskN (pre ++ [x]) = maskN pre ||| 2 ^ x.val := by simp [maskN]
theorem maskN_lt : ∀ pre : List (Fin 10), maskN pre < 1024 := by
  have : ∀ (pre : List (Fin 10)) (o : Nat), o < 2 ^ 10 → pre.foldl (fun o i => o ||| 2 ^ i.val) o < 2 ^ 10 := by
    intro pre
    induction pre with
    | nil => exact fun o h => h
    | cons x r ih => exact fun o h => ih _ (Nat.or_lt_two_pow h (Nat.pow_lt_pow_right (by decide) x.isLt))
  exact fun pre => this pre 0 (by decide)
theorem or_nat (a b : Nat) (ha : a < 1024) (hb : b < 1024) : bitsI .or .i64 a b = ((a ||| b : Nat) : Int) := by
  have h : (BitVec.ofInt 64 (a : Int) ||| BitVec.ofInt 64 (b : Int)).toNat = a ||| b := by
    rw [BitVec.toNat_or, BitVec.toNat_ofInt, BitVec.toNat_ofInt]
    congr 1 <;> omega
  show IntKind.i64.wrap ((BitVec.ofInt 64 (a : Int) ||| BitVec.ofInt 64 (b : Int)).toNat : Int) = _
  rw [h, wrap_id]
  have : a ||| b < 2 ^ 10 := Nat.or_lt_two_pow ha hb
  unfold i64ok; omega
def lowL (m k : Int) : List (Fin 10) := (upto m 10).take k.toNat
def lowI (m k : Int) : Int := outOf (lowL m k)
theorem upto_prefix (m : Int) {k : Nat} (h : k ≤ 10) : upto m k = (upto m 10).take (upto m k).length := by
  have : ∃ r, upto m 10 = upto m k ++ r := by
    refine ⟨((List.finRange 10).drop k).filter fun i => hasI m i.val, ?_⟩
    unfold upto
    rw [← List.filter_append, List.take_append_drop, List.take_of_length_le (by simp)]
  obtain ⟨r, hr⟩ := this
  rw [hr]; simp

set_option maxHeartbeats 2000000 in
theorem lowest_in (F : Fence) (h18 : F.fn 18) (h24 : F.fn 24) (h28 : F.fn 28) (h31 : F.fn 31) (hro : F.round = none) (hhas : HasIn F) (n : Nat) (hn : 3 ≤ n) (m k : Int) (hk : i64ok k) (w : World) :
    CallsIn F n Try.prog 24 #[.int .i64 m, .int .i64 k] w fun e W' => e = .returned (.int .i64 (lowI m k)) ∧ Below w.heap.size w W' := by
  have h1 : 1 ≤ n := by omega
  refine callsIn_of_wp_marks Try.func24 rfl h24 ?_ hro
  simp only [Try.ntmps24, List.size_toArray, List.length_cons, List.length_nil, Nat.reduceAdd, Nat.reduceSub, Array.replicate_succ, Array.replicate_zero, List.push_toArray, List.append_toArray, List.nil_append, List.cons_append]
  gi_wp2_with (gi_at_call 28; refine (members_in F h28 hro (n - 1) _ _).mono ?_; rintro e w' ⟨rfl, rfl⟩)
  obtain ⟨W1, hW1⟩ : ∃ W1, ((w.alloc (.cells #[.int .i64 k] 3)).alloc (.cells #[.int .i64 0] 25)).alloc (.cells #[.int .i64 m] 25) = W1 := ⟨_, rfl⟩
  have hb1 : Boxed W1 w.heap.size 3 (.int .i64 k) := by rw [← hW1]; exact ((Boxed.new w 3 _).alloc _).alloc _
  have hb2 : Boxed W1 (w.heap.size + 1) 25 (.int .i64 0) := by
    have := (Boxed.new (w.alloc (.cells #[.int .i64 k] 3)) 25 (.int .i64 0)).alloc (.cells #[.int .i64 m] 25)
    rw [World.size_alloc] at this
    rw [← hW1]; exact this
  have hb3 : Boxed W1 (w.heap.size + 1 + 1) 25 (.int .i64 m) := by
    have := Boxed.new ((w.alloc (.cells #[.int .i64 k] 3)).alloc (.cells #[.int .i64 0] 25)) 25 (.int .i64 m)
    rw [World.size_alloc, World.size_alloc] at this
    rw [← hW1]; exact this
  have hB0 : Below w.heap.size w W1 := by
    rw [← hW1]; exact (((Below.refl _ w).alloc (Nat.le_refl _) _).alloc (by simp) _).alloc (by simp; omega) _
  have hsz : W1.heap.size = w.heap.size + 3 := by rw [← hW1]; simp
  rw [hW1]
  refine wpIn_rangeFunc_ownF hro h1 (gf := 31) (lb := #[.pointer (some ⟨w.heap.size + 1 + 1, 0, none⟩)]) rfl h31 (enters_of Try.func31 (by kernel_rfl) rfl)
    (members_stops F h18 h31 hro hhas (n - 1) (by omega) (w.heap.size + 1 + 1) m _ (by omega) hb3.cell) keepsVar_t (keepsVar_b (by omega)) (Below.refl _ _) (fun _ => rfl)
    (fun pre W => ((pre = [] ∨ (pre.length : Int) ≤ k) ∧ Boxed W w.heap.size 3 (.int .i64 (k - pre.length)) ∧ Boxed W (w.heap.size + 1) 25 (.int .i64 (outOf pre)) ∧ Boxed W (w.heap.size + 1 + 1) 25 (.int .i64 m)) ∧ Below w.heap.size w W)
    (fun c pre W => (∃ pre0 x, pre = pre0 ++ [x] ∧ c = .exit 0 ∧ (pre0 = [] ∨ (pre0.length : Int) ≤ k) ∧ k ≤ pre0.length ∧ Boxed W (w.heap.size + 1) 25 (.int .i64 (outOf pre0))) ∧ Below w.heap.size w W)
    (OwnFrom.and (Own.from (fun s A B row hs hg hr => ⟨hs.1, boxed_own w.heap.size 3 (fun pre : List (Fin 10) => Value.int .i64 (k - pre.length)) s A B row hs.2.1 hg hr,
      boxed_own (w.heap.size + 1) 25 (fun pre : List (Fin 10) => Value.int .i64 (outOf pre)) s A B row hs.2.2.1 hg hr, boxed_own (w.heap.size + 1 + 1) 25 (fun _ : List (Fin 10) => Value.int .i64 m) s A B row hs.2.2.2 hg hr⟩) _) (ownFrom_below (Nat.le_refl _) (by omega)))
    (fun c => OwnFrom.and (Own.from (fun s A B row hs hg hr => by
      obtain ⟨pre0, x, e1, e2, e3, e4, e5⟩ := hs
      exact ⟨pre0, x, e1, e2, e3, e4, boxed_own (w.heap.size + 1) 25 (fun pre : List (Fin 10) => Value.int .i64 (outOf pre)) pre0 A B row e5 hg hr⟩) _) (ownFrom_below (Nat.le_refl _) (by omega)))
    ⟨⟨.inl rfl, by simpa using hb1, hb2, hb3⟩, hB0⟩
    (fun x => { tmps := #[.int .i64 m, .int .i64 k, undef, .pointer (some ⟨w.heap.size, 0, none⟩), .int .i64 0, .pointer (some ⟨w.heap.size + 1, 0, none⟩), .int .i64 (x.val : Int), .int .i64 m, .func (.func 31) #[] #[.pointer (some ⟨w.heap.size + 1 + 1, 0, none⟩)], .int .i64 (x.val : Int), undef, undef, undef, undef, undef, undef, undef, undef, undef], defers := [] }) ?assign ?body ?done ?stop
  case assign =>
    intro l x W K hK
    gi_wp2
    exact hK
  case body =>
    rintro l pre x W ⟨⟨hle, hk1, ho1, hm1⟩, hB⟩ hlen
    have hc1 := hk1.cell
    have hf1 := hk1.frozen
    have hc2 := ho1.cell
    have hf2 := ho1.frozen
    have key : ∀ (a' : Act), 1 ≤ k - (pre.length : Int) → ownPostK (KeepsVar (w.heap.size + 1 + 1))
        (fun pre W => ((pre = [] ∨ (pre.length : Int) ≤ k) ∧ Boxed W w.heap.size 3 (.int .i64 (k - pre.length)) ∧ Boxed W (w.heap.size + 1) 25 (.int .i64 (outOf pre)) ∧ Boxed W (w.heap.size + 1 + 1) 25 (.int .i64 m)) ∧ Below w.heap.size w W)
        (fun c pre W => (∃ pre0 x, pre = pre0 ++ [x] ∧ c = .exit 0 ∧ (pre0 = [] ∨ (pre0.length : Int) ≤ k) ∧ k ≤ pre0.length ∧ Boxed W (w.heap.size + 1) 25 (.int .i64 (outOf pre0))) ∧ Below w.heap.size w W)
        (pre ++ [x]) W .normal a'
        ((W.setCell ⟨w.heap.size + 1, 0, none⟩ (.int .i64 (bits .or .i64 (outOf pre) (wrap64 (2 ^ x.val))))).setCell ⟨w.heap.size, 0, none⟩ (.int .i64 (wrap64 (k - pre.length - 1)))).drew := by
      intro a' h1k
      have hx : (2 : Nat) ^ x.val < 1024 := Nat.pow_lt_pow_right (a := 2) (by decide) x.isLt
      have hp : wrap64 (2 ^ x.val) = ((2 ^ x.val : Nat) : Int) := by
        have : ((2 : Int) ^ x.val) = ((2 ^ x.val : Nat) : Int) := by simp
        rw [this]
        generalize (2 : Nat) ^ x.val = y at hx
        unfold wrap64; omega
      have ho : bits .or .i64 (outOf pre) (wrap64 (2 ^ x.val)) = outOf (pre ++ [x]) := by
        rw [hp]
        show bitsI .or .i64 (maskN pre : Nat) _ = ((maskN (pre ++ [x]) : Nat) : Int)
        rw [or_nat _ _ (maskN_lt pre) hx, maskN_snoc]
      have hkk : wrap64 (k - pre.length - 1) = k - ((pre ++ [x]).length : Int) := by
        simp only [List.length_append, List.length_singleton]
        unfold i64ok at hk; unfold wrap64; omega
      rw [ho, hkk]
      have b1 : Boxed (W.setCell ⟨w.heap.size + 1, 0, none⟩ (.int .i64 (outOf (pre ++ [x])))) w.heap.size 3 (.int .i64 (k - pre.length)) := hk1.other (by omega) _
      have b2 := ho1.set (.int .i64 (outOf (pre ++ [x])))
      have b3 : Boxed (W.setCell ⟨w.heap.size + 1, 0, none⟩ (.int .i64 (outOf (pre ++ [x])))) (w.heap.size + 1 + 1) 25 (.int .i64 m) := hm1.other (by omega) _
      have c1 := b1.set (.int .i64 (k - ((pre ++ [x]).length : Int)))
      have c2 := b2.other (B' := w.heap.size) (by omega) (.int .i64 (k - ((pre ++ [x]).length : Int)))
      have c3 := b3.other (B' := w.heap.size) (by omega) (.int .i64 (k - ((pre ++ [x]).length : Int)))
      refine ⟨((KeepsOthers.setCell W _ _).trans (KeepsOthers.setCell _ _ _)).trans (KeepsOthers.drew _), boxed_keeps hm1 c3, ⟨.inr ?_, c1, c2, c3⟩, ((hB.setCell (p := ⟨w.heap.size + 1, 0, none⟩) (by simp) _).setCell (p := ⟨w.heap.size, 0, none⟩) (by simp) _).drew⟩
      simp; omega
    gi_wp2
    · exact ⟨KeepsOthers.refl W, ⟨pre, x, rfl, rfl, hle, by omega, ho1⟩, hB⟩
    · have hmo := mixed
      gi_region_with_o gi_in
      all_goals gi_wp2
      all_goals (try go_bits)
      all_goals exact key _ (by omega)
  case done =>
    rintro D ys W hD rfl ⟨⟨hle, hk1, ho1, hm1⟩, hB⟩ hK
    have hc := ho1.cell
    gi_wp2
    refine ⟨by simp, .inl ⟨_, _, rfl, run_takeDeferred hK, ?_⟩⟩
    refine ⟨_, results_tmp rfl _ _ _, ?_, hB.trans (belowK_b (w := w) (Nat.le_refl _) W D _ _ (by omega) hK rfl rfl)⟩
    have : lowL m k = upto m 10 := List.take_of_length_le (by
      rcases hle with h | h
      · rw [h]; simp
      · omega)
    simp [lowI, this]
  case stop =>
    rintro D c pre W hD hsp ⟨⟨pre0, x, rfl, rfl, e3, e4, e5⟩, hB⟩ hK
    have hc := e5.cell
    obtain ⟨k', hk', hh, hpre⟩ := hsp
    obtain ⟨hp0, -⟩ := List.append_inj' hpre rfl
    gi_wp2
    refine ⟨by simp, .inl ⟨_, _, rfl, run_takeDeferred hK, ?_⟩⟩
    refine ⟨_, results_tmp rfl _ _ _, ?_, hB.trans (belowK_b (w := w) (Nat.le_refl _) W D _ _ (by omega) hK rfl rfl)⟩
    have : lowL m k = pre0 := by
      have hu := upto_prefix m (k := k') (by omega)
      rw [← hp0] at hu
      rw [hu]
      unfold lowL
      congr 1
      rcases e3 with h | h
      · subst h; simp at e4 ⊢; omega
      · omega
    rw [lowI, this, hp0]; rfl
end Go.Proofs.Ytffdhbejffbfkaa
