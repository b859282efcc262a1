/- What the program allows and what the reference allows are the same: plain mathematics. -/
import Derived.Test.YtngjhimhmpbofaaJn
set_option linter.unusedSimpArgs false
set_option linter.unusedVariables false
set_option maxRecDepth 100000
namespace Go.Proofs.Ytngjhimhmpbofaa
open Go Go.PS
theorem if_t {c : Bool} {a : Bool} : (if c = true then a else false) = (c && a) := by cases c <;> rfl
theorem if_o {c : Bool} {a : Bool} : (if c = true then true else a) = (c || a) := by cases c <;> rfl
theorem valid_signer {w : Vt} (h : validB w = true) : 0 ≤ w.signer ∧ w.signer < 10 := by
  have := (vK_of_valid h).2.2.1
  simp [btw] at this; omega
theorem cnt_iff {m : Int} {v w : Vt} (hs : hasI m v.slot = true) : cntB m v w = true ↔ countsB m v w = true ∧ w.kind ≤ 4 := by
  unfold cntB countsB
  simp only [if_t]
  simp only [Bool.and_eq_true, decide_eq_true_eq, beq_iff_eq]
  constructor
  · rintro ⟨⟨⟨⟨h1, h2⟩, h3⟩, h4⟩, h5⟩
    exact ⟨⟨⟨⟨⟨h2, h3⟩, h5⟩, by rw [h3]; exact hs⟩, h1⟩, h4⟩
  · rintro ⟨⟨⟨⟨⟨h2, h3⟩, h5⟩, _⟩, h1⟩, h4⟩
    exact ⟨⟨⟨⟨h1, h2⟩, h3⟩, h4⟩, h5⟩
theorem counts_valid {m : Int} {v w : Vt} (h : countsB m v w = true) : validB w = true := by
  unfold countsB at h
  simp only [if_t] at h
  simp only [Bool.and_eq_true] at h
  exact h.2
/-- A vote that was said: who, of which kind and round, with the value of v. -/
theorem said_iff {m : Int} {v : Vt} {a : List Vt} {s k r : Int} : saidB m v a s k r false = true ↔ ∃ w ∈ a, w.signer = s ∧ w.kind = k ∧ w.round = r ∧ sameB v w = true ∧ countsB m v w = true := by
  unfold saidB saysB
  rw [List.any_eq_true]
  simp only [if_t, if_o]
  simp only [Bool.and_eq_true, beq_iff_eq, Bool.not_false, Bool.false_and, Bool.false_or, Bool.true_and]
  constructor
  · rintro ⟨w, hw, ⟨⟨⟨h1, h2⟩, h3⟩, h4⟩, h5⟩; exact ⟨w, hw, h1, h2, h3, h4, h5⟩
  · rintro ⟨w, hw, h1, h2, h3, h4, h5⟩; exact ⟨w, hw, ⟨⟨⟨h1, h2⟩, h3⟩, h4⟩, h5⟩
theorem mixed_iff {m : Int} {v : Vt} {a : List Vt} {s k r : Int} : saidB m v a s k r true = true ↔ ∃ w ∈ a, w.signer = s ∧ w.kind = k ∧ w.round = r ∧ w.choice = 2 ∧ countsB m v w = true := by
  unfold saidB saysB
  rw [List.any_eq_true]
  simp only [if_t, if_o]
  simp only [Bool.and_eq_true, beq_iff_eq, Bool.not_true, Bool.false_and, Bool.or_false, Bool.true_and, if_true, if_false, Bool.false_eq_true]
  constructor
  · rintro ⟨w, hw, ⟨⟨⟨h1, h2⟩, h3⟩, h4⟩, h5⟩; exact ⟨w, hw, h1, h2, h3, h4, h5⟩
  · rintro ⟨w, hw, h1, h2, h3, h4, h5⟩; exact ⟨w, hw, ⟨⟨⟨h1, h2⟩, h3⟩, h4⟩, h5⟩
/-! ### Support -/
theorem andNot_zero {x y : Int} : bitsI .andNot .i64 x y = 0 ↔ ∀ i, i < 64 → (BitVec.ofInt 64 x).getLsbD i = true → (BitVec.ofInt 64 y).getLsbD i = true := by
  have e : bitsI .andNot .i64 x y = IntKind.i64.wrap ((BitVec.ofInt 64 x &&& ~~~BitVec.ofInt 64 y).toNat : Int) := rfl
  have hlt := (BitVec.ofInt 64 x &&& ~~~BitVec.ofInt 64 y).isLt
  have h0 : bitsI .andNot .i64 x y = 0 ↔ (BitVec.ofInt 64 x &&& ~~~BitVec.ofInt 64 y) = 0#64 := by
    rw [e, wrap_e]
    constructor
    · intro h
      apply BitVec.eq_of_toNat_eq
      simp only [BitVec.toNat_ofNat]
      omega
    · intro h
      rw [h]; decide
  rw [h0]
  constructor
  · intro h i hi hx
    have := congrArg (fun b => b.getLsbD i) h
    simp only [BitVec.getLsbD_and, BitVec.getLsbD_not, hx, hi, decide_true, Bool.true_and] at this
    simpa using this
  · intro h
    apply BitVec.eq_of_getLsbD_eq
    intro i hi
    simp only [BitVec.getLsbD_and, BitVec.getLsbD_not, hi, decide_true, Bool.true_and]
    cases hx : (BitVec.ofInt 64 x).getLsbD i
    · simp
    · simp [h i hi hx]
theorem mem_upto {m : Int} {i : Fin 10} : i ∈ upto m 10 ↔ hasI m i.val = true := by
  rw [upto_all, List.mem_filter]
  simp [List.mem_finRange]
theorem sub_iff {s m : Int} (h : bitsI .andNot .i64 s 1023 = 0) : bitsI .andNot .i64 s m = 0 ↔ ∀ i ∈ upto s 10, hasI m i.val = true := by
  rw [andNot_zero] at h ⊢
  have hbig : ∀ i, 10 ≤ i → i < 64 → (BitVec.ofInt 64 s).getLsbD i = false := by
    intro i hi hi2
    rw [← Bool.not_eq_true]
    intro hx
    have := h i hi2 hx
    have hz : ∀ i : Fin 64, 10 ≤ i.val → (BitVec.ofInt 64 1023).getLsbD i.val = false := by decide
    rw [hz ⟨i, hi2⟩ hi] at this
    cases this
  constructor
  · intro h' i hi
    rw [mem_upto] at hi
    rw [hasI_nat _ _ i.isLt, ← bit_bv _ _ i.isLt]
    apply h' i.val (by omega)
    rw [bit_bv _ _ i.isLt, ← hasI_nat _ _ i.isLt]
    exact hi
  · intro h' i hi hx
    rcases Nat.lt_or_ge i 10 with h10 | h10
    · rw [bit_bv _ _ h10, ← hasI_nat _ _ h10] at hx ⊢
      exact h' ⟨i, h10⟩ (mem_upto.2 hx)
    · rw [hbig i h10 hi] at hx; cases hx
/-- A support, said with Props. -/
theorem supp_iff {m : Int} {v : Vt} {l : List Vt} {f : Vt → Bool} (hv : bitsI .andNot .i64 v.support 1023 = 0) :
    suppB m (quorI (sizeI m)) l v.support f = true ↔ exactB m v.support = true ∧ ∀ i ∈ upto v.support 10, ∃ w ∈ l, w.signer = (i.val : Int) ∧ f w = true := by
  unfold suppB exactB
  simp only [if_t, if_o]
  have e : ((upto v.support 10).all fun i => l.any fun w => w.signer == (i.val : Int) && f w) = true ↔ ∀ i ∈ upto v.support 10, ∃ w ∈ l, w.signer = (i.val : Int) ∧ f w = true := by
    rw [List.all_eq_true]
    refine forall_congr' fun i => forall_congr' fun _ => ?_
    rw [List.any_eq_true]
    simp only [Bool.and_eq_true, beq_iff_eq]
  by_cases h : (bitsI .andNot .i64 v.support m != 0 || sizeI v.support != quorI (sizeI m)) = true
  · rw [if_pos h]
    constructor
    · intro hf; cases hf
    · rintro ⟨h1, _⟩
      exfalso
      rw [Bool.and_eq_true, List.all_eq_true, beq_iff_eq] at h1
      have hz := (sub_iff hv).2 h1.1
      rw [hz, h1.2] at h
      simp at h
  · rw [if_neg h, e]
    simp only [Bool.or_eq_true, bne_iff_ne, ne_eq, not_or, Decidable.not_not] at h
    rw [Bool.and_eq_true, List.all_eq_true, beq_iff_eq]
    exact ⟨fun h2 => ⟨⟨(sub_iff hv).1 h.1, h.2⟩, h2⟩, fun h2 => h2.2⟩
theorem all_iff {m : Int} {v : Vt} {a : List Vt} {k r : Int} : allR m v a k r = true ↔ exactB m v.support = true ∧ ∀ i ∈ upto v.support 10, saidB m v a i.val k r false = true := by
  unfold allR
  rw [if_t, Bool.and_eq_true, List.all_eq_true]
  exact And.comm
theorem any_filter_iff {a : List Vt} {p f : Vt → Bool} : (a.filter p).any f = true ↔ ∃ w ∈ a, p w = true ∧ f w = true := by
  rw [List.any_eq_true]
  constructor
  · rintro ⟨w, hw, h⟩; rw [List.mem_filter] at hw; exact ⟨w, hw.1, hw.2, h⟩
  · rintro ⟨w, hw, h1, h2⟩; exact ⟨w, List.mem_filter.2 ⟨hw, h1⟩, h2⟩
theorem support_ok {v : Vt} (h : validB v = true) : bitsI .andNot .i64 v.support 1023 = 0 := by
  have := (vK_of_valid h).2.2.2.2
  simpa using this
theorem kind_valid {w : Vt} (h : validB w = true) : (w.kind = 1 → w.round = 0) ∧ (w.kind = 2 → w.round = 0) := by
  have hk := (vK_of_valid h).1
  constructor
  · intro h1
    have : vK w = vA w := by unfold vK; rw [h1]; rfl
    rw [this] at hk
    unfold vA at hk
    simp only [if_t] at hk
    simp only [Bool.and_eq_true, beq_iff_eq] at hk
    exact hk.1.2.1
  · intro h1
    have : vK w = vA w := by unfold vK; rw [h1]; rfl
    rw [this] at hk
    unfold vA at hk
    simp only [if_t] at hk
    simp only [Bool.and_eq_true, beq_iff_eq] at hk
    exact hk.1.2.1
theorem fin_of {s : Int} (h : 0 ≤ s ∧ s < 10) : ∃ i : Fin 10, s = (i.val : Int) := ⟨⟨s.toNat, by omega⟩, by simp; omega⟩
/-- A supporter's vote among those that count. -/
theorem who_iff {m : Int} {v : Vt} {a : List Vt} {i : Int} {f : Vt → Bool} (hs : hasI m v.slot = true) (hf : ∀ w, f w = true → w.kind ≤ 4) :
    (∃ w ∈ a.filter (cntB m v), w.signer = i ∧ f w = true) ↔ ∃ w ∈ a, w.signer = i ∧ f w = true ∧ countsB m v w = true := by
  constructor
  · rintro ⟨w, hw, h1, h2⟩
    rw [List.mem_filter, cnt_iff hs] at hw
    exact ⟨w, hw.1, h1, h2, hw.2.1⟩
  · rintro ⟨w, hw, h1, h2, h3⟩
    exact ⟨w, List.mem_filter.2 ⟨hw, (cnt_iff hs).2 ⟨h3, hf w h2⟩⟩, h1, h2⟩
theorem has_orBits : ∀ (l : List Vt) (i : Fin 10), (∀ w ∈ l, 0 ≤ w.signer ∧ w.signer < 10) → (hasI (orBits l) i.val = true ↔ ∃ w ∈ l, w.signer = (i.val : Int)) := by
  have hb : ∀ i j : Fin 10, hasI (bitN (j.val : Nat)) i.val = decide (i = j) := by decide +kernel
  have key : ∀ (l : List Vt) (o : Int) (i : Fin 10), (∀ w ∈ l, 0 ≤ w.signer ∧ w.signer < 10) →
      (hasI (l.foldl (fun o w => bitsI .or .i64 o (bitN w.signer)) o) i.val = true ↔ hasI o i.val = true ∨ ∃ w ∈ l, w.signer = (i.val : Int)) := by
    intro l
    induction l with
    | nil => intro o i _; simp
    | cons x r ih =>
      intro o i h
      rw [List.foldl_cons, ih _ i (fun w hw => h w (by simp [hw])), hasI_or _ _ _ i.isLt, Bool.or_eq_true]
      obtain ⟨j, hj⟩ := fin_of (h x (by simp))
      rw [hj, hb, decide_eq_true_eq]
      constructor
      · rintro ((h1 | h1) | ⟨w, hw, h1⟩)
        · exact .inl h1
        · exact .inr ⟨x, by simp, by rw [hj, h1]⟩
        · exact .inr ⟨w, by simp [hw], h1⟩
      · rintro (h1 | ⟨w, hw, h1⟩)
        · exact .inl (.inl h1)
        · rcases List.mem_cons.1 hw with rfl | hw
          · rw [hj] at h1
            exact .inl (.inr (Fin.ext (by omega)))
          · exact .inr ⟨w, hw, h1⟩
  intro l i h
  have h0 : ∀ i : Fin 10, hasI 0 i.val = false := by decide
  rw [orBits, key l 0 i h, h0]
  simp
/-- As many as supporters, and only supporters: all of them. -/
theorem size_all {s t : Int} (h : ∀ i ∈ upto s 10, i ∈ upto t 10) : sizeI s = sizeI t ↔ ∀ i ∈ upto t 10, i ∈ upto s 10 := by
  have hs : (upto s 10).Sublist (upto t 10) := by
    rw [upto_all, upto_all]
    have e : (List.finRange 10).filter (fun i => hasI s i.val) = ((List.finRange 10).filter fun i => hasI t i.val).filter fun i => hasI s i.val := by
      rw [List.filter_filter]
      refine List.filter_congr fun i _ => ?_
      cases h1 : hasI s i.val
      · rfl
      · have := h i (mem_upto.2 h1)
        rw [mem_upto] at this
        simp [this]
    rw [e]
    exact List.filter_sublist
  constructor
  · intro he i hi
    have : upto s 10 = upto t 10 := hs.eq_of_length (by unfold sizeI at he; omega)
    rw [this]; exact hi
  · intro h'
    have : upto s 10 = upto t 10 := by
      rw [upto_all, upto_all]
      refine List.filter_congr fun i _ => ?_
      rw [Bool.eq_iff_iff, ← mem_upto, ← mem_upto]
      exact ⟨h i, h' i⟩
    unfold sizeI; rw [this]
/-- The supporters' votes that fit are what the reference finds. -/
theorem supp_all {m : Int} {v : Vt} {a : List Vt} {k r : Int} {f : Vt → Bool} (hval : validB v = true) (hsl : hasI m v.slot = true) (hk : k ≤ 4)
    (hf : ∀ w, validB w = true → (f w = true ↔ w.kind = k ∧ w.round = r ∧ sameB v w = true)) :
    suppB m (quorI (sizeI m)) (a.filter (cntB m v)) v.support f = allR m v a k r := by
  rw [Bool.eq_iff_iff, supp_iff (support_ok hval), all_iff]
  refine and_congr_right fun _ => forall_congr' fun i => forall_congr' fun _ => ?_
  rw [said_iff]
  constructor
  · rintro ⟨w, hw, h1, h2⟩
    rw [List.mem_filter, cnt_iff hsl] at hw
    obtain ⟨h3, h4, h5⟩ := (hf w (counts_valid hw.2.1)).1 h2
    exact ⟨w, hw.1, h1, h3, h4, h5, hw.2.1⟩
  · rintro ⟨w, hw, h1, h2, h3, h4, h5⟩
    exact ⟨w, List.mem_filter.2 ⟨hw, (cnt_iff hsl).2 ⟨h5, by omega⟩⟩, h1, (hf w (counts_valid h5)).2 ⟨h2, h3, h4⟩⟩
theorem f37_iff {v w : Vt} : f37 v w = true ↔ w.kind = 4 ∧ w.round = v.round - 1 ∧ sameB v w = true := by
  unfold f37 prevR
  simp only [if_t]
  simp only [Bool.and_eq_true, beq_iff_eq, and_assoc]
theorem f38_iff {v w : Vt} : f38 v w = true ↔ w.kind = 4 ∧ w.round = v.round - 1 ∧ w.choice = 2 := by
  unfold f38 prevR
  simp only [if_t]
  simp only [Bool.and_eq_true, beq_iff_eq, and_assoc]
theorem f41_iff {v w : Vt} : f41 v w = true ↔ w.kind = 3 ∧ w.round = v.round - 1 ∧ sameB v w = true := by
  unfold f41 prevR
  simp only [if_t]
  simp only [Bool.and_eq_true, beq_iff_eq, and_assoc]
theorem f42_iff {v w : Vt} : f42 v w = true ↔ w.kind = 3 ∧ w.round = v.round := by
  unfold f42
  rw [if_t, Bool.and_eq_true, beq_iff_eq, beq_iff_eq]
theorem adopt_eq {m : Int} {v : Vt} {a : List Vt} (hval : validB v = true) (hsl : hasI m v.slot = true) :
    (if suppB m (quorI (sizeI m)) (a.filter (cntB m v)) v.support (fun w => if f37 v w = true then true else f38 v w) = true then (a.filter (cntB m v)).any (fun w => if hasI v.support w.signer = true then f37 v w else false) else false) = adoptsB m v a := by
  unfold adoptsB
  simp only [if_t]
  rw [Bool.eq_iff_iff, Bool.and_eq_true, Bool.and_eq_true, Bool.and_eq_true, supp_iff (support_ok hval), List.all_eq_true, any_filter_iff, List.any_eq_true]
  have h1 : (∀ i ∈ upto v.support 10, ∃ w ∈ a.filter (cntB m v), w.signer = (i.val : Int) ∧ (if f37 v w = true then true else f38 v w) = true) ↔
      ∀ i ∈ upto v.support 10, (if saidB m v a i.val 4 (v.round - 1) false = true then true else saidB m v a i.val 4 (v.round - 1) true) = true := by
    refine forall_congr' fun i => forall_congr' fun _ => ?_
    rw [if_o, Bool.or_eq_true, said_iff, mixed_iff]
    constructor
    · rintro ⟨w, hw, h1, h2⟩
      rw [List.mem_filter, cnt_iff hsl] at hw
      rw [if_o, Bool.or_eq_true, f37_iff, f38_iff] at h2
      rcases h2 with ⟨h3, h4, h5⟩ | ⟨h3, h4, h5⟩
      · exact .inl ⟨w, hw.1, h1, h3, h4, h5, hw.2.1⟩
      · exact .inr ⟨w, hw.1, h1, h3, h4, h5, hw.2.1⟩
    · rintro (⟨w, hw, h1, h2, h3, h4, h5⟩ | ⟨w, hw, h1, h2, h3, h4, h5⟩)
      · exact ⟨w, List.mem_filter.2 ⟨hw, (cnt_iff hsl).2 ⟨h5, by omega⟩⟩, h1, by rw [if_o, Bool.or_eq_true, f37_iff, f38_iff]; exact .inl ⟨h2, h3, h4⟩⟩
      · exact ⟨w, List.mem_filter.2 ⟨hw, (cnt_iff hsl).2 ⟨h5, by omega⟩⟩, h1, by rw [if_o, Bool.or_eq_true, f37_iff, f38_iff]; exact .inr ⟨h2, h3, h4⟩⟩
  have h2 : (∃ w ∈ a, cntB m v w = true ∧ (hasI v.support w.signer && f37 v w) = true) ↔ ∃ i ∈ upto v.support 10, saidB m v a i.val 4 (v.round - 1) false = true := by
    constructor
    · rintro ⟨w, hw, hc, hf⟩
      rw [cnt_iff hsl] at hc
      rw [Bool.and_eq_true, f37_iff] at hf
      obtain ⟨i, hi⟩ := fin_of (valid_signer (counts_valid hc.1))
      exact ⟨i, mem_upto.2 (by rw [← hi]; exact hf.1), said_iff.2 ⟨w, hw, hi, hf.2.1, hf.2.2.1, hf.2.2.2, hc.1⟩⟩
    · rintro ⟨i, hi, h⟩
      obtain ⟨w, hw, h1, h2, h3, h4, h5⟩ := said_iff.1 h
      refine ⟨w, hw, (cnt_iff hsl).2 ⟨h5, by omega⟩, ?_⟩
      rw [Bool.and_eq_true, f37_iff]
      exact ⟨by rw [h1]; exact mem_upto.1 hi, h2, h3, h4⟩
  rw [h1, h2]
  constructor
  · rintro ⟨⟨h3, h4⟩, h5⟩; exact ⟨h4, h5, h3⟩
  · rintro ⟨h4, h5, h3⟩; exact ⟨⟨h3, h4⟩, h5⟩
theorem carry_eq {m : Int} {v : Vt} {a : List Vt} (hval : validB v = true) (hsl : hasI m v.slot = true) :
    (if suppB m (quorI (sizeI m)) (a.filter (cntB m v)) v.support (f38 v) = true then (a.filter (cntB m v)).any (f41 v) else false) = carriesB m v a := by
  unfold carriesB
  simp only [if_t]
  rw [Bool.eq_iff_iff, Bool.and_eq_true, Bool.and_eq_true, Bool.and_eq_true, supp_iff (support_ok hval), List.all_eq_true, any_filter_iff, List.any_eq_true]
  have h1 : (∀ i ∈ upto v.support 10, ∃ w ∈ a.filter (cntB m v), w.signer = (i.val : Int) ∧ f38 v w = true) ↔
      ∀ i ∈ upto v.support 10, saidB m v a i.val 4 (v.round - 1) true = true := by
    refine forall_congr' fun i => forall_congr' fun _ => ?_
    rw [mixed_iff, who_iff hsl (fun w h => by have := (f38_iff.1 h).1; omega)]
    constructor
    · rintro ⟨w, hw, h1, h2, h3⟩
      rw [f38_iff] at h2
      exact ⟨w, hw, h1, h2.1, h2.2.1, h2.2.2, h3⟩
    · rintro ⟨w, hw, h1, h2, h3, h4, h5⟩
      exact ⟨w, hw, h1, f38_iff.2 ⟨h2, h3, h4⟩, h5⟩
  have h2 : (∃ w ∈ a, cntB m v w = true ∧ f41 v w = true) ↔ ∃ i ∈ List.finRange 10, saidB m v a i.val 3 (v.round - 1) false = true := by
    constructor
    · rintro ⟨w, hw, hc, hf⟩
      rw [cnt_iff hsl] at hc
      rw [f41_iff] at hf
      obtain ⟨i, hi⟩ := fin_of (valid_signer (counts_valid hc.1))
      exact ⟨i, List.mem_finRange i, said_iff.2 ⟨w, hw, hi, hf.1, hf.2.1, hf.2.2, hc.1⟩⟩
    · rintro ⟨i, hi, h⟩
      obtain ⟨w, hw, h1, h2, h3, h4, h5⟩ := said_iff.1 h
      exact ⟨w, hw, (cnt_iff hsl).2 ⟨h5, by omega⟩, f41_iff.2 ⟨h2, h3, h4⟩⟩
  rw [h1, h2]
  constructor
  · rintro ⟨⟨h3, h4⟩, h5⟩; exact ⟨h4, h3, h5⟩
  · rintro ⟨h4, h3, h5⟩; exact ⟨⟨h3, h4⟩, h5⟩
theorem both_eq {m : Int} {v : Vt} {a : List Vt} (hsl : hasI m v.slot = true) : (a.filter (cntB m v)).filter (fun w => f42 v w && hasI v.support w.signer) = a.filter (bothB m v) := by
  rw [List.filter_filter]
  refine List.filter_congr fun w _ => ?_
  rw [Bool.eq_iff_iff, Bool.and_eq_true, Bool.and_eq_true, f42_iff, cnt_iff hsl]
  unfold bothB
  simp only [if_o]
  simp only [Bool.not_eq_true', Bool.or_eq_false_iff, bne_eq_false_iff_eq, Bool.not_eq_false']
  constructor
  · rintro ⟨⟨⟨h1, h2⟩, h3⟩, h4, h5⟩; exact ⟨⟨⟨h1, h2⟩, h3⟩, h4⟩
  · rintro ⟨⟨⟨h1, h2⟩, h3⟩, h4⟩; exact ⟨⟨⟨h1, h2⟩, h3⟩, h4, by omega⟩
theorem two_eq {m : Int} {v : Vt} {a : List Vt} (hval : validB v = true) (hsl : hasI m v.slot = true) :
    (if !suppB m (quorI (sizeI m)) (a.filter (cntB m v)) v.support (f42 v) then false else twoB (a.filter (cntB m v)) v) = twoR m v a := by
  have ht : twoB (a.filter (cntB m v)) v = unlike (a.filter (bothB m v)) := by
    unfold twoB unlike
    rw [both_eq hsl]
    cases a.filter (bothB m v) <;> rfl
  rw [ht]
  unfold twoR
  dsimp only
  have hmem : ∀ w ∈ a.filter (bothB m v), 0 ≤ w.signer ∧ w.signer < 10 := by
    intro w hw
    rw [← both_eq hsl] at hw
    have := (List.mem_filter.1 hw).1
    rw [List.mem_filter, cnt_iff hsl] at this
    exact valid_signer (counts_valid this.2.1)
  have hsub : ∀ i ∈ upto (orBits (a.filter (bothB m v))) 10, i ∈ upto v.support 10 := by
    intro i hi
    rw [mem_upto, has_orBits _ _ hmem] at hi
    obtain ⟨w, hw, h1⟩ := hi
    rw [← both_eq hsl, List.mem_filter, Bool.and_eq_true] at hw
    rw [mem_upto, ← h1]; exact hw.2.2
  have hsz := size_all hsub
  have hall : (∀ i ∈ upto v.support 10, i ∈ upto (orBits (a.filter (bothB m v))) 10) ↔ ∀ i ∈ upto v.support 10, ∃ w ∈ a.filter (cntB m v), w.signer = (i.val : Int) ∧ f42 v w = true := by
    refine forall_congr' fun i => forall_congr' fun hi => ?_
    rw [mem_upto, has_orBits _ _ hmem]
    constructor
    · rintro ⟨w, hw, h1⟩
      rw [← both_eq hsl, List.mem_filter, Bool.and_eq_true] at hw
      exact ⟨w, hw.1, h1, hw.2.1⟩
    · rintro ⟨w, hw, h1, h2⟩
      refine ⟨w, ?_, h1⟩
      rw [← both_eq hsl, List.mem_filter, Bool.and_eq_true]
      exact ⟨hw, h2, by rw [h1]; exact mem_upto.1 hi⟩
  have hs := supp_iff (m := m) (l := a.filter (cntB m v)) (f := f42 v) (support_ok hval)
  rw [← hall, ← hsz] at hs
  simp only [if_t]
  cases hsB : suppB m (quorI (sizeI m)) (a.filter (cntB m v)) v.support (f42 v) with
  | true =>
    obtain ⟨h1, h2⟩ := hs.1 hsB
    simp [h1, h2]
  | false =>
    simp only [Bool.not_false, if_true]
    symm
    rw [← Bool.not_eq_true, Bool.and_eq_true, Bool.and_eq_true, beq_iff_eq]
    rintro ⟨⟨_, h2⟩, h1⟩
    have := hs.2 ⟨h1, h2⟩
    rw [hsB] at this; cases this
theorem allow_ref (m : Int) (v : Vt) (a : List Vt) : allowB m v a = refB m v a := by
  unfold allowB refB
  cases hmay : mayB m v with
  | true => rfl
  | false =>
    simp only [Bool.false_eq_true, if_false]
    obtain ⟨hval, hk4, hsg, hsl⟩ := valid_of_may hmay
    have hsup := support_ok hval
    unfold kindR
    have hkp : 1 ≤ v.kind := by
      have := (vK_of_valid hval).2.1
      simp [btw] at this; omega
    have hkk : v.kind = 1 ∨ v.kind = 2 ∨ v.kind = 3 ∨ v.kind = 4 := by omega
    rcases hkk with hk | hk | hk | hk
    · simp [hk]
    · simp only [hk, show ((2 : Int) == 1) = false from rfl, show ((2 : Int) == 2) = true from rfl, Bool.false_eq_true, if_false, if_true]
      rw [Bool.eq_iff_iff, any_filter_iff, List.any_eq_true]
      constructor
      · rintro ⟨w, hw, hc, hf⟩
        rw [cnt_iff hsl] at hc
        obtain ⟨i, hi⟩ := fin_of (valid_signer (counts_valid hc.1))
        unfold f21 at hf
        rw [if_t, Bool.and_eq_true, beq_iff_eq] at hf
        exact ⟨i, List.mem_finRange i, said_iff.2 ⟨w, hw, hi, hf.1, (kind_valid (counts_valid hc.1)).1 hf.1, hf.2, hc.1⟩⟩
      · rintro ⟨i, _, h⟩
        obtain ⟨w, hw, h1, h2, h3, h4, h5⟩ := said_iff.1 h
        refine ⟨w, hw, (cnt_iff hsl).2 ⟨h5, by omega⟩, ?_⟩
        unfold f21
        rw [if_t, Bool.and_eq_true, beq_iff_eq]
        exact ⟨h2, h4⟩
    · simp only [hk, show ((3 : Int) == 1) = false from rfl, show ((3 : Int) == 2) = false from rfl, show ((3 : Int) == 3) = true from rfl, Bool.false_eq_true, if_false, if_true]
      by_cases hr1 : v.round = 1
      · simp only [hr1, show ((1 : Int) == 1) = true from rfl, if_true]
        unfold prevB
        simp only [hr1, show ((1 : Int) == 1) = true from rfl, if_true]
        rw [supp_all (k := 2) (r := 0) hval hsl (by decide) (fun w hw => ?_)]
        unfold f36
        rw [if_t, Bool.and_eq_true, beq_iff_eq]
        exact ⟨fun h => ⟨h.1, (kind_valid hw).2 h.1, h.2⟩, fun h => ⟨h.1, h.2.2⟩⟩
      · have e : (v.round == 1) = false := by simpa using hr1
        simp only [e, Bool.false_eq_true, if_false]
        unfold prevB
        simp only [e, Bool.false_eq_true, if_false]
        rw [← adopt_eq hval hsl, ← carry_eq hval hsl]
    · simp only [hk, show ((4 : Int) == 1) = false from rfl, show ((4 : Int) == 2) = false from rfl, show ((4 : Int) == 3) = false from rfl, Bool.false_eq_true, if_false]
      unfold precB
      by_cases hc : v.choice = 2
      · simp only [hc, show ((2 : Int) == 2) = true from rfl, show ((2 : Int) != 2) = false from rfl, Bool.false_eq_true, if_false, if_true]
        exact two_eq hval hsl
      · have e1 : (v.choice == 2) = false := by simpa using hc
        have e2 : (v.choice != 2) = true := by simpa using hc
        simp only [e1, e2, Bool.false_eq_true, if_false, if_true]
        exact supp_all (k := 3) hval hsl (by decide) (fun w hw => by rw [if_t, Bool.and_eq_true, f42_iff, and_assoc])
end Go.Proofs.Ytngjhimhmpbofaa
