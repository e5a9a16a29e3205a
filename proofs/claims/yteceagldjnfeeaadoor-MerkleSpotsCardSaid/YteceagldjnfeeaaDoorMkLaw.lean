/- What the proofs of a tree of pairs show, in plain Lean. No program is walked here. -/
import Derived.Test.YteceagldjnfeeaaDoorMkMath
namespace Go.Proofs.YteceagldjnfeeaaDoor
set_option linter.unusedVariables false
set_option linter.unusedSimpArgs false

theorem countP_cut {α : Type} (p : α → Bool) : ∀ (l : List α), (∀ i j (hi : i < j) (hj : j < l.length), p l[j] = true → p (l[i]'(by omega)) = true) → ∀ i (hi : i < l.length), p l[i] = decide (i < l.countP p)
  | [], _, i, hi => by simp at hi
  | a :: r, hm, i, hi => by
    cases ha : p a with
    | true =>
      rw [List.countP_cons_of_pos ha]
      cases i with
      | zero => simp [ha]
      | succ i =>
        have := countP_cut p r (fun i j hij hj h => hm (i + 1) (j + 1) (by omega) (by simpa using hj) (by simpa using h)) i (by simpa using hi)
        simp only [List.getElem_cons_succ, this, Nat.add_lt_add_iff_right]
    | false =>
      have h0 : ∀ x ∈ r, p x = false := by
        intro x hx
        obtain ⟨j, hj, rfl⟩ := List.getElem_of_mem hx
        cases hx2 : p r[j] with
        | false => rfl
        | true =>
          have := hm 0 (j + 1) (by omega) (by simpa using hj) (by simpa using hx2)
          simp [ha] at this
      have hc : (a :: r).countP p = 0 := by
        rw [List.countP_eq_zero]
        intro x hx
        rcases List.mem_cons.1 hx with rfl | hx
        · simp [ha]
        · simp [h0 x hx]
      rw [hc]
      cases i with
      | zero => simp [ha]
      | succ i => simp [h0 _ (List.getElem_mem _)]

theorem keyAt_get (ps : List KV) (i : Nat) (h : i < ps.length) : keyAt ps i = ps[i].1 := by
  unfold keyAt; rw [List.getD_eq_getElem?_getD, List.getElem?_eq_getElem h]; rfl
theorem valAt_get (ps : List KV) (i : Nat) (h : i < ps.length) : valAt ps i = ps[i].2 := by
  unfold valAt; rw [List.getD_eq_getElem?_getD, List.getElem?_eq_getElem h]; rfl
theorem below_tells {ps : List KV} (h : okTo ps ps.length = true) (key : List UInt8) (i : Nat) (hi : i < ps.length) : blt (keyAt ps i) key = decide (i < below ps key) := by
  rw [keyAt_get ps i hi]
  refine countP_cut (fun p : KV => blt p.1 key) ps (fun i j hij hj hb => ?_) i hi
  have h1 := keys_rise h hij hj
  rw [keyAt_get ps i (by omega), keyAt_get ps j hj] at h1
  exact blt_trans _ _ _ h1 hb
theorem below_le (ps : List KV) (key : List UInt8) : below ps key ≤ ps.length := List.countP_le_length
theorem below_key {ps : List KV} (h : okTo ps ps.length = true) (i : Nat) (hi : i < ps.length) : below ps (keyAt ps i) = i := by
  have h1 := below_tells h (keyAt ps i) i hi
  rw [blt_irrefl] at h1
  have h2 : ¬ i < below ps (keyAt ps i) := by simpa using h1.symm
  by_cases h3 : below ps (keyAt ps i) < i
  · have h4 := below_tells h (keyAt ps i) _ (Nat.lt_trans h3 hi)
    rw [keys_rise h h3 hi] at h4
    simp at h4
  · omega
theorem there_at {ps : List KV} (h : okTo ps ps.length = true) (i : Nat) (hi : i < ps.length) : thereB ps (keyAt ps i) = true := by
  unfold thereB
  rw [below_key h i hi]
  simp [hi]
theorem prove_at {ps : List KV} (h : okTo ps ps.length = true) (i : Nat) (hi : i < ps.length) : proveV ps (keyAt ps i) = ⟨ps.length, [shownV ps i]⟩ := by
  unfold proveV
  rw [there_at h i hi, below_key h i hi]
  simp [hi]

theorem good_at {ps : List KV} {n i : Nat} (h : okTo ps n = true) (hi : i < n) : goodK (keyAt ps i) = true := by
  have := okTo_at h hi
  unfold okAt at this
  simp only [Bool.and_eq_true] at this
  exact this.1.1
theorem val_at {ps : List KV} {n i : Nat} (h : okTo ps n = true) (hi : i < n) : (valAt ps i).length ≤ 65535 := by
  have := okTo_at h hi
  unfold okAt at this
  simp only [Bool.and_eq_true, decide_eq_true_eq] at this
  exact this.2
theorem ordered_iff (ps : List KV) : ordered ps = true ↔ okTo ps ps.length = true ∧ ps.length ≤ 65536 := by
  unfold ordered; rw [Bool.and_eq_true, decide_eq_true_eq]
theorem leaves_32 (ps : List KV) : ∀ x ∈ ps.map leafH, x.length = 32 := by
  intro x hx
  obtain ⟨p, _, rfl⟩ := List.mem_map.1 hx
  exact leafH_length p
theorem leaf_at (ps : List KV) (i : Nat) (hi : i < ps.length) : (ps.map leafH).getD i [] = leafH (keyAt ps i, valAt ps i) := by
  rw [keyAt_get ps i hi, valAt_get ps i hi, List.getD_eq_getElem?_getD, List.getElem?_map, List.getElem?_eq_getElem hi]; rfl
theorem shown_holds {ps : List KV} (h : ordered ps = true) (i : Nat) (hi : i < ps.length) : holdsV (rootH ps) ps.length (shownV ps i) = true := by
  rw [ordered_iff] at h
  have hw := way_ok _ (ps.map leafH) i (Nat.le_refl _) (by rw [List.length_map]; exact hi) (leaves_32 ps)
  have hk := way_wayOk (ps.map leafH) i (by rw [List.length_map]; exact hi) (leaves_32 ps)
  rw [List.length_map, leaf_at ps i hi] at hw
  rw [List.length_map] at hk
  unfold holdsV shownV
  simp only [Int.toNat_natCast, good_at h.1 hi, hk, hw.2, Bool.and_true, Bool.true_and, Bool.and_eq_true, decide_eq_true_eq]
  exact ⟨⟨by omega, val_at h.1 hi⟩, rfl⟩

/-- A key that is there is shown with its value, and not shown to be absent. -/
theorem there_shown {ps : List KV} (h : ordered ps = true) (i : Nat) (hi : i < ps.length) :
    verifyV (rootH ps) (keyAt ps i) (valAt ps i) (proveV ps (keyAt ps i)) = true ∧ absentV (rootH ps) (keyAt ps i) (proveV ps (keyAt ps i)) = false := by
  have hs := shown_holds h i hi
  rw [ordered_iff] at h
  rw [prove_at h.1 i hi]
  constructor
  · unfold verifyV
    simp only [hs, Bool.and_true, Bool.and_eq_true, decide_eq_true_eq]
    exact ⟨rfl, rfl⟩
  · unfold absentV
    have e : (shownV ps i).key = keyAt ps i := rfl
    simp only [e, blt_irrefl, Bool.and_false, Bool.or_false]

/-- A key that isn't there is shown to be absent, and with no value. -/
theorem absent_shown {ps : List KV} (h : ordered ps = true) (key : List UInt8) (hg : goodK key = true) (hn : ∀ i, i < ps.length → keyAt ps i ≠ key) (value : List UInt8) :
    absentV (rootH ps) key (proveV ps key) = true ∧ verifyV (rootH ps) key value (proveV ps key) = false ∧ (proveV ps key).leaves.length ≤ 2 := by
  have hord := h
  rw [ordered_iff] at h
  have hb := below_le ps key
  have ht : thereB ps key = false := by
    unfold thereB
    by_cases hlt : below ps key < ps.length
    · simp [hn _ hlt]
    · simp [hlt]
  have hlo : ∀ i, i < below ps key → blt (keyAt ps i) key = true := fun i hi => by rw [below_tells h.1 key i (by omega)]; exact decide_eq_true hi
  have hhi : ∀ i, below ps key ≤ i → i < ps.length → blt key (keyAt ps i) = true := fun i hi hl => by
    have := below_tells h.1 key i hl
    rw [decide_eq_false (by omega)] at this
    exact blt_total _ _ (hn i hl) this
  unfold proveV
  rw [ht]
  generalize hB : below ps key = B at *
  have ek : ∀ i, (shownV ps i).key = keyAt ps i := fun _ => rfl
  have ei : ∀ i, (shownV ps i).i = (i : Int) := fun _ => rfl
  by_cases h0 : 0 < B
  · have s0 := shown_holds hord (B - 1) (by omega)
    by_cases h1 : B < ps.length
    · have s1 := shown_holds hord B h1
      simp only [Bool.not_false, Bool.true_and, decide_eq_true h0, if_true, if_pos h1, List.cons_append, List.nil_append]
      refine ⟨?_, rfl, by simp⟩
      unfold absentV
      simp only [hg, List.all_cons, List.all_nil, s0, s1, ek, ei, hlo (B - 1) (by omega), hhi B (Nat.le_refl _) h1, Bool.and_true, Bool.true_and, decide_eq_true_eq]
      omega
    · simp only [Bool.not_false, Bool.true_and, decide_eq_true h0, if_true, if_neg h1, List.append_nil]
      refine ⟨?_, ?_, by simp⟩
      · unfold absentV
        simp only [hg, List.all_cons, List.all_nil, s0, ek, ei, hlo (B - 1) (by omega), Bool.and_true, Bool.true_and, Bool.or_eq_true, decide_eq_true_eq]
        right
        omega
      · unfold verifyV
        simp only [ek, decide_eq_false (hn (B - 1) (by omega)), Bool.false_and]
  · by_cases h1 : B < ps.length
    · have s1 := shown_holds hord B h1
      simp only [Bool.not_false, Bool.true_and, decide_eq_false h0, Bool.false_eq_true, if_false, if_pos h1, List.nil_append]
      refine ⟨?_, ?_, by simp⟩
      · unfold absentV
        simp only [hg, List.all_cons, List.all_nil, s1, ek, ei, hhi B (Nat.le_refl _) h1, Bool.and_true, Bool.true_and, Bool.or_eq_true, decide_eq_true_eq]
        left
        omega
      · unfold verifyV
        simp only [ek, decide_eq_false (hn B h1), Bool.false_and]
    · have hz : ps = [] := List.eq_nil_of_length_eq_zero (by omega)
      subst hz
      simp only [Bool.not_false, Bool.true_and, decide_eq_false h0, Bool.false_eq_true, if_false, if_neg h1, List.append_nil]
      refine ⟨?_, rfl, by simp⟩
      unfold absentV
      simp [hg, rootH, topH]

/-! ### Places -/
theorem turns_length (m : Nat) : ∀ i n : Nat, n ≤ 2 ^ m → (turns i n).length ≤ m := by
  induction m with
  | zero => intro i n h; rw [turns_one i n (by simpa using Nat.lt_of_le_of_lt h (by decide))]; simp
  | succ m ih =>
    intro i n h
    by_cases h2 : 2 ≤ n
    · have hg := half_ge n h2
      have hl := half_lt n h2
      have hh : half n ≤ 2 ^ m := by
        unfold half at hl ⊢
        refine Nat.pow_le_pow_right (by omega) ?_
        have : 2 ^ Nat.log2 (n - 1) < 2 ^ (m + 1) := by omega
        have := (Nat.pow_lt_pow_iff_right (show 1 < 2 by omega)).1 this
        omega
      by_cases hi : i < half n
      · rw [turns_left i n h2 hi]
        have := ih i (half n) hh
        simp only [List.length_cons]; omega
      · rw [turns_right i n h2 hi]
        have := ih (i - half n) (n - half n) (by omega)
        simp only [List.length_cons]; omega
    · rw [turns_one i n (by omega)]; simp
theorem path_short {ps : List KV} (h : ordered ps = true) (i : Nat) (hi : i < ps.length) : (pathH (ps.map leafH) i).length ≤ 16 := by
  rw [ordered_iff] at h
  have hw := way_ok _ (ps.map leafH) i (Nat.le_refl _) (by rw [List.length_map]; exact hi) (leaves_32 ps)
  rw [hw.1, List.length_map]
  exact turns_length 16 i _ h.2
theorem back_ordered {ps : List KV} (h : ordered ps = true) (h1 : 1 ≤ ps.length) : ordered ps.reverse = decide (ps.length = 1) := by
  by_cases h2 : ps.length = 1
  · have e : ps.reverse = ps := by
      match ps, h2 with
      | [x], _ => rfl
    rw [e, h]; simp [h2]
  · rw [decide_eq_false h2]
    rw [ordered_iff] at h
    have hf : okAt ps.reverse 1 = false := by
      have e0 : keyAt ps.reverse 0 = keyAt ps (ps.length - 1) := by
        rw [keyAt_get _ 0 (by rw [List.length_reverse]; omega), keyAt_get _ _ (by omega), List.getElem_reverse]; simp
      have e1 : keyAt ps.reverse 1 = keyAt ps (ps.length - 2) := by
        rw [keyAt_get _ 1 (by rw [List.length_reverse]; omega), keyAt_get _ _ (by omega), List.getElem_reverse]
        congr 2
      have hb := keys_rise h.1 (show ps.length - 2 < ps.length - 1 by omega) (by omega)
      unfold okAt
      rw [e1, show 1 - 1 = 0 by rfl, e0, blt_asymm _ _ hb]
      simp
    unfold ordered
    rw [okTo_false (i := 1) (by rw [List.length_reverse]; omega) hf]
    rfl
end Go.Proofs.YteceagldjnfeeaaDoor
