/- The tree of pairs in plain Lean: order, rows, ways, proofs. No program is walked here. -/
import Derived.Test.YteceagldjnfeeaaDoorSgMath
import Derived.Test.YteceagldjnfeeaaDoorOrd
namespace Go.Proofs.YteceagldjnfeeaaDoor
set_option linter.unusedVariables false
set_option linter.unusedSimpArgs false

/-! ### Pairs -/
abbrev KV := List UInt8 × List UInt8
def wRoot : List UInt8 := [114, 111, 111, 116]
def goodK (k : List UInt8) : Bool := decide (k ≠ []) && decide (k.length ≤ 200)
def keyAt (ps : List KV) (i : Nat) : List UInt8 := (ps.getD i ([], [])).1
def valAt (ps : List KV) (i : Nat) : List UInt8 := (ps.getD i ([], [])).2
def okAt (ps : List KV) (i : Nat) : Bool := goodK (keyAt ps i) && (decide (i = 0) || blt (keyAt ps (i - 1)) (keyAt ps i)) && decide ((valAt ps i).length ≤ 65535)
def okTo (ps : List KV) (n : Nat) : Bool := (List.range n).all (okAt ps)
theorem okTo_succ (ps : List KV) (n : Nat) : okTo ps (n + 1) = (okTo ps n && okAt ps n) := by simp [okTo, List.range_succ]
theorem okTo_at {ps : List KV} {n : Nat} (h : okTo ps n = true) {i : Nat} (hi : i < n) : okAt ps i = true := List.all_eq_true.1 h i (List.mem_range.2 hi)
theorem okTo_false {ps : List KV} {n i : Nat} (hi : i < n) (h : okAt ps i = false) : okTo ps n = false := by
  cases e : okTo ps n with
  | false => rfl
  | true => rw [okTo_at e hi] at h; cases h
def ordered (ps : List KV) : Bool := okTo ps ps.length && decide (ps.length ≤ 65536)
theorem keys_rise {ps : List KV} {n : Nat} (h : okTo ps n = true) {i j : Nat} (hij : i < j) (hj : j < n) : blt (keyAt ps i) (keyAt ps j) = true := by
  induction j with
  | zero => omega
  | succ j ih =>
    have h1 := okTo_at h hj
    have h2 : blt (keyAt ps j) (keyAt ps (j + 1)) = true := by
      unfold okAt at h1
      simp only [Bool.and_eq_true, Bool.or_eq_true, decide_eq_true_eq, Nat.add_sub_cancel] at h1
      rcases h1.1.2 with h0 | h0
      · omega
      · exact h0
    by_cases e : i = j
    · subst e; exact h2
    · exact blt_trans _ _ _ (ih (by omega) (by omega)) h2

/-! ### Halves -/
def half (n : Nat) : Nat := 2 ^ Nat.log2 (n - 1)
theorem half_pos (n : Nat) : 0 < half n := Nat.two_pow_pos _
theorem half_lt (n : Nat) (h : 2 ≤ n) : half n < n := by
  have : 2 ^ Nat.log2 (n - 1) ≤ n - 1 := Nat.log2_self_le (by omega)
  unfold half; omega
theorem half_ge (n : Nat) (h : 2 ≤ n) : n ≤ 2 * half n := by
  have : n - 1 < 2 ^ (Nat.log2 (n - 1) + 1) := Nat.lt_log2_self
  unfold half; rw [Nat.pow_succ] at this; omega
theorem half_of (n j : Nat) (h : 2 ≤ n) (h1 : 2 ^ j < n) (h2 : n ≤ 2 * 2 ^ j) : half n = 2 ^ j := by
  have h3 := half_lt n h
  have h4 := half_ge n h
  unfold half at *
  by_cases e : Nat.log2 (n - 1) = j
  · rw [e]
  · exfalso
    rcases Nat.lt_or_gt_of_ne e with h5 | h5
    · have : 2 ^ (Nat.log2 (n - 1) + 1) ≤ 2 ^ j := Nat.pow_le_pow_right (by omega) h5
      rw [Nat.pow_succ] at this
      omega
    · have : 2 ^ (j + 1) ≤ 2 ^ Nat.log2 (n - 1) := Nat.pow_le_pow_right (by omega) h5
      rw [Nat.pow_succ] at this
      omega

/-! ### Rows and ways -/
def leafH (p : KV) : List UInt8 := tagged wLeaf [p.1, p.2]
theorem leafH_length (p : KV) : (leafH p).length = 32 := tagged_length _ _
def rowH (ls : List (List UInt8)) : List UInt8 :=
  if h : 2 ≤ ls.length then node (rowH (ls.take (half ls.length))) (rowH (ls.drop (half ls.length))) else ls.getD 0 []
termination_by ls.length
decreasing_by
  · rw [List.length_take]; have := half_lt _ h; omega
  · rw [List.length_drop]; have := half_pos ls.length; omega
theorem rowH_one (ls : List (List UInt8)) (h : ls.length < 2) : rowH ls = ls.getD 0 [] := by
  rw [rowH, dif_neg (by omega)]
theorem rowH_two (ls : List (List UInt8)) (h : 2 ≤ ls.length) : rowH ls = node (rowH (ls.take (half ls.length))) (rowH (ls.drop (half ls.length))) := by
  rw [rowH, dif_pos h]
def pathH (ls : List (List UInt8)) (i : Nat) : List (List UInt8) :=
  if h : 2 ≤ ls.length then
    if i < half ls.length then pathH (ls.take (half ls.length)) i ++ [rowH (ls.drop (half ls.length))]
    else pathH (ls.drop (half ls.length)) (i - half ls.length) ++ [rowH (ls.take (half ls.length))]
  else []
termination_by ls.length
decreasing_by
  · rw [List.length_take]; have := half_lt _ h; omega
  · rw [List.length_drop]; have := half_pos ls.length; omega
theorem pathH_one (ls : List (List UInt8)) (i : Nat) (h : ls.length < 2) : pathH ls i = [] := by
  rw [pathH, dif_neg (by omega)]
theorem pathH_left (ls : List (List UInt8)) (i : Nat) (h : 2 ≤ ls.length) (hi : i < half ls.length) : pathH ls i = pathH (ls.take (half ls.length)) i ++ [rowH (ls.drop (half ls.length))] := by
  rw [pathH, dif_pos h, if_pos hi]
theorem pathH_right (ls : List (List UInt8)) (i : Nat) (h : 2 ≤ ls.length) (hi : ¬ i < half ls.length) : pathH ls i = pathH (ls.drop (half ls.length)) (i - half ls.length) ++ [rowH (ls.take (half ls.length))] := by
  rw [pathH, dif_pos h, if_neg hi]
def topH (n : Nat) (h : List UInt8) : List UInt8 := if n = 0 then tagged wRoot [be8 0] else tagged wRoot [be8 n, h]
def rootH (ps : List KV) : List UInt8 := topH ps.length (rowH (ps.map leafH))
theorem topH_length (n : Nat) (h : List UInt8) : (topH n h).length = 32 := by unfold topH; split <;> exact tagged_length _ _

theorem rowH_32 (m : Nat) : ∀ ls : List (List UInt8), ls.length ≤ m → 1 ≤ ls.length → (∀ x ∈ ls, x.length = 32) → (rowH ls).length = 32 := by
  induction m with
  | zero => intro ls h1 h2; omega
  | succ m ih =>
    intro ls h1 h2 h32
    by_cases h : 2 ≤ ls.length
    · rw [rowH_two ls h]; exact node_length _ _
    · rw [rowH_one ls (by omega), List.getD_eq_getElem?_getD, List.getElem?_eq_getElem (by omega)]
      exact h32 _ (List.getElem_mem _)
theorem pathH_32 (m : Nat) : ∀ (ls : List (List UInt8)) (i : Nat), ls.length ≤ m → (∀ x ∈ ls, x.length = 32) → ∀ x ∈ pathH ls i, x.length = 32 := by
  induction m with
  | zero => intro ls i h1 h32 x hx; rw [pathH_one ls i (by omega)] at hx; cases hx
  | succ m ih =>
    intro ls i h1 h32 x hx
    by_cases h : 2 ≤ ls.length
    · have hl := half_lt _ h
      have hp := half_pos ls.length
      have t32 : ∀ x ∈ ls.take (half ls.length), x.length = 32 := fun x hx => h32 x (List.mem_of_mem_take hx)
      have d32 : ∀ x ∈ ls.drop (half ls.length), x.length = 32 := fun x hx => h32 x (List.mem_of_mem_drop hx)
      by_cases hi : i < half ls.length
      · rw [pathH_left ls i h hi] at hx
        rcases List.mem_append.1 hx with hx | hx
        · exact ih _ i (by rw [List.length_take]; omega) t32 x hx
        · rw [List.mem_singleton] at hx
          subst hx
          exact rowH_32 _ _ (Nat.le_refl _) (by rw [List.length_drop]; omega) d32
      · rw [pathH_right ls i h hi] at hx
        rcases List.mem_append.1 hx with hx | hx
        · exact ih _ _ (by rw [List.length_drop]; omega) d32 x hx
        · rw [List.mem_singleton] at hx
          subst hx
          exact rowH_32 _ _ (Nat.le_refl _) (by rw [List.length_take]; omega) t32
    · rw [pathH_one ls i (by omega)] at hx; cases hx

/-! ### Up the way -/
/-- The turns from the top: true is left. -/
def turns (i n : Nat) : List Bool :=
  if h : 2 ≤ n then if i < half n then true :: turns i (half n) else false :: turns (i - half n) (n - half n) else []
termination_by n
decreasing_by
  · exact half_lt _ h
  · have := half_pos n; omega
theorem turns_one (i n : Nat) (h : n < 2) : turns i n = [] := by rw [turns, dif_neg (by omega)]
theorem turns_left (i n : Nat) (h : 2 ≤ n) (hi : i < half n) : turns i n = true :: turns i (half n) := by rw [turns, dif_pos h, if_pos hi]
theorem turns_right (i n : Nat) (h : 2 ≤ n) (hi : ¬ i < half n) : turns i n = false :: turns (i - half n) (n - half n) := by rw [turns, dif_pos h, if_neg hi]
def joinT (t : Bool) (h b : List UInt8) : List UInt8 := if t then node h b else node b h
/-- Up from the leaf: the turns and the way from the bottom. -/
def goUp (h : List UInt8) : List Bool → List (List UInt8) → List UInt8
  | t :: ts, b :: bs => goUp (joinT t h b) ts bs
  | _, _ => h
theorem goUp_snoc (h : List UInt8) (ts : List Bool) (bs : List (List UInt8)) (t : Bool) (b : List UInt8) (hl : ts.length = bs.length) : goUp h (ts ++ [t]) (bs ++ [b]) = joinT t (goUp h ts bs) b := by
  induction ts generalizing h bs with
  | nil =>
    obtain rfl : bs = [] := List.eq_nil_of_length_eq_zero hl.symm
    rfl
  | cons t' ts ih =>
    cases bs with
    | nil => simp at hl
    | cons b' bs => exact ih (joinT t' h b') bs (by simpa using hl)
def wayOk (i n : Nat) (path : List (List UInt8)) : Bool := decide (path.length = (turns i n).length) && path.all (fun b => decide (b.length = 32))
def upOf (h : List UInt8) (i n : Nat) (path : List (List UInt8)) : List UInt8 := goUp h (turns i n).reverse path

theorem way_ok (m : Nat) : ∀ (ls : List (List UInt8)) (i : Nat), ls.length ≤ m → i < ls.length → (∀ x ∈ ls, x.length = 32) →
    (pathH ls i).length = (turns i ls.length).length ∧ upOf (ls.getD i []) i ls.length (pathH ls i) = rowH ls := by
  induction m with
  | zero => intro ls i h1 h2; omega
  | succ m ih =>
    intro ls i h1 h2 h32
    by_cases h : 2 ≤ ls.length
    · have hl := half_lt _ h
      have hp := half_pos ls.length
      have t32 : ∀ x ∈ ls.take (half ls.length), x.length = 32 := fun x hx => h32 x (List.mem_of_mem_take hx)
      have d32 : ∀ x ∈ ls.drop (half ls.length), x.length = 32 := fun x hx => h32 x (List.mem_of_mem_drop hx)
      have lt : (ls.take (half ls.length)).length = half ls.length := by rw [List.length_take]; omega
      have ld : (ls.drop (half ls.length)).length = ls.length - half ls.length := by rw [List.length_drop]
      by_cases hi : i < half ls.length
      · obtain ⟨e1, e2⟩ := ih (ls.take (half ls.length)) i (by omega) (by omega) t32
        rw [lt] at e1 e2
        have eg : (ls.take (half ls.length)).getD i [] = ls.getD i [] := by
          rw [List.getD_eq_getElem?_getD, List.getD_eq_getElem?_getD, List.getElem?_take, if_pos hi]
        rw [eg] at e2
        rw [pathH_left ls i h hi, turns_left i _ h hi, rowH_two ls h]
        refine ⟨by simp [e1], ?_⟩
        unfold upOf at e2 ⊢
        rw [turns_left i _ h hi, List.reverse_cons, goUp_snoc _ _ _ _ _ (by rw [List.length_reverse, e1]), e2]
        rfl
      · obtain ⟨e1, e2⟩ := ih (ls.drop (half ls.length)) (i - half ls.length) (by omega) (by omega) d32
        rw [ld] at e1 e2
        have eg : (ls.drop (half ls.length)).getD (i - half ls.length) [] = ls.getD i [] := by
          rw [List.getD_eq_getElem?_getD, List.getD_eq_getElem?_getD, List.getElem?_drop, show half ls.length + (i - half ls.length) = i by omega]
        rw [eg] at e2
        rw [pathH_right ls i h hi, turns_right i _ h hi, rowH_two ls h]
        refine ⟨by simp [e1], ?_⟩
        unfold upOf at e2 ⊢
        rw [turns_right i _ h hi, List.reverse_cons, goUp_snoc _ _ _ _ _ (by rw [List.length_reverse, e1]), e2]
        rfl
    · rw [pathH_one ls i (by omega), turns_one i _ (by omega), rowH_one ls (by omega)]
      obtain rfl : i = 0 := by omega
      refine ⟨rfl, ?_⟩
      unfold upOf
      rw [turns_one 0 _ (by omega)]
      rfl
theorem way_wayOk (ls : List (List UInt8)) (i : Nat) (hi : i < ls.length) (h32 : ∀ x ∈ ls, x.length = 32) : wayOk i ls.length (pathH ls i) = true := by
  obtain ⟨e1, _⟩ := way_ok _ ls i (Nat.le_refl _) hi h32
  unfold wayOk
  rw [Bool.and_eq_true, decide_eq_true_eq, List.all_eq_true]
  exact ⟨e1, fun x hx => decide_eq_true (pathH_32 _ ls i (Nat.le_refl _) h32 x hx)⟩
/-- One step of the reference's way up. -/
theorem wayOk_nil (i n : Nat) (h : 2 ≤ n) : wayOk i n [] = false := by
  unfold wayOk
  by_cases hi : i < half n
  · rw [turns_left i n h hi]; simp
  · rw [turns_right i n h hi]; simp
theorem wayOk_one (i n : Nat) (path : List (List UInt8)) (h : n < 2) : wayOk i n path = decide (path = []) := by
  unfold wayOk
  rw [turns_one i n h]
  cases path <;> simp
theorem wayOk_left (i n : Nat) (rest : List (List UInt8)) (b : List UInt8) (h : 2 ≤ n) (hi : i < half n) : wayOk i n (rest ++ [b]) = (decide (b.length = 32) && wayOk i (half n) rest) := by
  unfold wayOk
  rw [turns_left i n h hi, Bool.eq_iff_iff]
  simp only [List.length_append, List.length_cons, List.length_nil, List.all_append, List.all_cons, List.all_nil, Bool.and_true, Bool.and_eq_true, decide_eq_true_eq]
  constructor
  · rintro ⟨h1, h2, h3⟩; exact ⟨h3, by omega, h2⟩
  · rintro ⟨h3, h1, h2⟩; exact ⟨by omega, h2, h3⟩
theorem wayOk_right (i n : Nat) (rest : List (List UInt8)) (b : List UInt8) (h : 2 ≤ n) (hi : ¬ i < half n) : wayOk i n (rest ++ [b]) = (decide (b.length = 32) && wayOk (i - half n) (n - half n) rest) := by
  unfold wayOk
  rw [turns_right i n h hi, Bool.eq_iff_iff]
  simp only [List.length_append, List.length_cons, List.length_nil, List.all_append, List.all_cons, List.all_nil, Bool.and_true, Bool.and_eq_true, decide_eq_true_eq]
  constructor
  · rintro ⟨h1, h2, h3⟩; exact ⟨h3, by omega, h2⟩
  · rintro ⟨h3, h1, h2⟩; exact ⟨by omega, h2, h3⟩
theorem upOf_left (h0 : List UInt8) (i n : Nat) (rest : List (List UInt8)) (b : List UInt8) (h : 2 ≤ n) (hi : i < half n) (hw : wayOk i (half n) rest = true) : upOf h0 i n (rest ++ [b]) = node (upOf h0 i (half n) rest) b := by
  have hl : rest.length = (turns i (half n)).length := by unfold wayOk at hw; simp only [Bool.and_eq_true, decide_eq_true_eq] at hw; exact hw.1
  unfold upOf
  rw [turns_left i n h hi, List.reverse_cons, goUp_snoc _ _ _ _ _ (by rw [List.length_reverse, hl])]
  rfl
theorem upOf_right (h0 : List UInt8) (i n : Nat) (rest : List (List UInt8)) (b : List UInt8) (h : 2 ≤ n) (hi : ¬ i < half n) (hw : wayOk (i - half n) (n - half n) rest = true) : upOf h0 i n (rest ++ [b]) = node b (upOf h0 (i - half n) (n - half n) rest) := by
  have hl : rest.length = (turns (i - half n) (n - half n)).length := by unfold wayOk at hw; simp only [Bool.and_eq_true, decide_eq_true_eq] at hw; exact hw.1
  unfold upOf
  rw [turns_right i n h hi, List.reverse_cons, goUp_snoc _ _ _ _ _ (by rw [List.length_reverse, hl])]
  rfl
theorem upOf_one (h0 : List UInt8) (i n : Nat) (h : n < 2) : upOf h0 i n [] = h0 := by
  unfold upOf; rw [turns_one i n h]; rfl

/-! ### Leaves, proofs -/
structure LeafV where
  i : Int
  key : List UInt8
  value : List UInt8
  path : List (List UInt8)
structure ProofV where
  n : Int
  leaves : List LeafV
def holdsV (root : List UInt8) (n : Int) (l : LeafV) : Bool :=
  decide (1 ≤ n ∧ n ≤ 65536 ∧ 0 ≤ l.i ∧ l.i < n) && goodK l.key && decide (l.value.length ≤ 65535) &&
  (wayOk l.i.toNat n.toNat l.path && decide (topH n.toNat (upOf (leafH (l.key, l.value)) l.i.toNat n.toNat l.path) = root))
def verifyV (root key value : List UInt8) (p : ProofV) : Bool :=
  match p.leaves with
  | [l] => decide (l.key = key) && decide (l.value = value) && holdsV root p.n l
  | _ => false
def absentV (root key : List UInt8) (p : ProofV) : Bool :=
  goodK key && p.leaves.all (holdsV root p.n) &&
  match p.leaves with
  | [] => decide (p.n = 0) && decide (topH 0 [] = root)
  | [l] => (decide (l.i = 0) && blt key l.key) || (decide (l.i = p.n - 1) && blt l.key key)
  | [l, m] => decide (m.i = l.i + 1) && blt l.key key && blt key m.key
  | _ => false
def shownV (ps : List KV) (i : Nat) : LeafV := ⟨i, keyAt ps i, valAt ps i, pathH (ps.map leafH) i⟩
/-- How many keys stand below. -/
def below (ps : List KV) (key : List UInt8) : Nat := ps.countP fun p => blt p.1 key
def thereB (ps : List KV) (key : List UInt8) : Bool := decide (below ps key < ps.length) && decide (keyAt ps (below ps key) = key)
def proveV (ps : List KV) (key : List UInt8) : ProofV :=
  ⟨ps.length, (if !thereB ps key && decide (0 < below ps key) then [shownV ps (below ps key - 1)] else []) ++ (if below ps key < ps.length then [shownV ps (below ps key)] else [])⟩
end Go.Proofs.YteceagldjnfeeaaDoor
