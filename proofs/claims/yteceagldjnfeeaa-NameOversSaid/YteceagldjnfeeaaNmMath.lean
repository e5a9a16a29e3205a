/- Identifiers and denominations in plain Lean. No program is walked here. -/
import GoSem.Op.String
namespace Go.Proofs.Yteceagldjnfeeaa
set_option linter.unusedVariables false
set_option linter.unusedSimpArgs false

def smallB (c : UInt8) : Bool := decide (97 ≤ c.toNat) && decide (c.toNat ≤ 122)
def digitB (c : UInt8) : Bool := decide (48 ≤ c.toNat) && decide (c.toNat ≤ 57)
def lateB (c : UInt8) : Bool := smallB c || digitB c || decide (c.toNat = 45) || decide (c.toNat = 46)
/-- The sign at a place. -/
def signB (i : Nat) (c : UInt8) : Bool := smallB c || (decide (0 < i) && (digitB c || decide (c.toNat = 45) || decide (c.toNat = 46)))
def signsTo (l : List UInt8) (n : Nat) : Bool := (List.range n).all fun i => signB i (l.getD i 0)
def identB (l : List UInt8) : Bool := decide (l ≠ []) && decide (l.length ≤ 32) && signsTo l l.length
theorem signsTo_succ (l : List UInt8) (n : Nat) : signsTo l (n + 1) = (signsTo l n && signB n (l.getD n 0)) := by simp [signsTo, List.range_succ]
theorem signsTo_false {l : List UInt8} {n i : Nat} (hi : i < n) (h : signB i (l.getD i 0) = false) : signsTo l n = false := by
  cases e : signsTo l n with
  | false => rfl
  | true => have := List.all_eq_true.1 e i (List.mem_range.2 hi); rw [h] at this; cases this
theorem ident_len {l : List UInt8} (h : identB l = true) : 0 < l.length ∧ l.length ≤ 32 := by
  unfold identB at h
  simp only [Bool.and_eq_true, decide_eq_true_eq] at h
  exact ⟨List.length_pos_iff.2 h.1.1, h.1.2⟩
def slash : UInt8 := 47
theorem ident_slash {l : List UInt8} (h : identB l = true) : slash ∉ l := by
  intro hm
  obtain ⟨i, hi, he⟩ := List.getElem_of_mem hm
  unfold identB at h
  simp only [Bool.and_eq_true] at h
  have h1 := List.all_eq_true.1 h.2 i (List.mem_range.2 hi)
  rw [List.getD_eq_getElem?_getD, List.getElem?_eq_getElem hi, he] at h1
  simp [signB, smallB, digitB, slash] at h1

/-! ### Cut at a slash -/
def cutAt : List UInt8 → Option (List UInt8 × List UInt8)
  | [] => none
  | c :: r => if c = slash then some ([], r) else (cutAt r).map fun p => (c :: p.1, p.2)
theorem cutAt_none : ∀ l : List UInt8, cutAt l = none ↔ slash ∉ l
  | [] => by simp [cutAt]
  | c :: r => by
    rw [cutAt]
    by_cases h : c = slash
    · simp [h]
    · rw [if_neg h, Option.map_eq_none_iff, cutAt_none r]
      have h' : ¬ slash = c := fun e => h e.symm
      simp [h']
theorem cutAt_some : ∀ {l a b : List UInt8}, cutAt l = some (a, b) → l = a ++ slash :: b ∧ slash ∉ a
  | [], a, b, h => by cases h
  | c :: r, a, b, h => by
    rw [cutAt] at h
    by_cases hc : c = slash
    · rw [if_pos hc] at h
      cases h
      subst hc
      exact ⟨rfl, by simp⟩
    · rw [if_neg hc] at h
      rcases hr : cutAt r with _ | ⟨p, q⟩
      · rw [hr] at h; cases h
      · rw [hr] at h
        simp only [Option.map_some, Option.some.injEq, Prod.mk.injEq] at h
        obtain ⟨rfl, rfl⟩ := h
        obtain ⟨h1, h2⟩ := cutAt_some hr
        have hc' : ¬ slash = c := fun e => hc e.symm
        exact ⟨by rw [h1]; rfl, by simp [hc', h2]⟩
theorem cutAt_append (a b : List UInt8) (h : slash ∉ a) : cutAt (a ++ slash :: b) = some (a, b) := by
  induction a with
  | nil => simp [cutAt]
  | cons c r ih =>
    have h1 : ¬ c = slash := fun e => h (by simp [e])
    have h2 : slash ∉ r := fun e => h (List.mem_cons_of_mem _ e)
    rw [List.cons_append, cutAt, if_neg h1, ih h2]
    rfl
theorem cutAt_lt {l a b : List UInt8} (h : cutAt l = some (a, b)) : b.length < l.length := by
  rw [(cutAt_some h).1]; simp only [List.length_append, List.length_cons]; omega

/-! ### Words -/
def words (l : List UInt8) : List (List UInt8) :=
  match h : cutAt l with
  | none => [l]
  | some (a, b) => a :: words b
termination_by l.length
decreasing_by exact cutAt_lt h
theorem words_none {l : List UInt8} (h : cutAt l = none) : words l = [l] := by
  rw [words]; split
  · rfl
  · rename_i h2; rw [h] at h2; cases h2
theorem words_some {l a b : List UInt8} (h : cutAt l = some (a, b)) : words l = a :: words b := by
  rw [words]; split
  · rename_i h2; rw [h] at h2; cases h2
  · rename_i h2; rw [h] at h2; cases h2; rfl
theorem words_ne (l : List UInt8) : words l ≠ [] := by
  rcases h : cutAt l with _ | ⟨a, b⟩
  · rw [words_none h]; simp
  · rw [words_some h]; simp

/-! ### Denominations -/
def wTransfer : List UInt8 := [116, 114, 97, 110, 115, 102, 101, 114]
def port : List UInt8 := [116, 114, 97, 110, 115, 102, 101, 114, 47]
def parseW : List (List UInt8) → Option (List (List UInt8) × List UInt8)
  | [] => none
  | [b] => if identB b = true then some ([], b) else none
  | t :: h :: r => if t = wTransfer ∧ identB h = true then (parseW r).map fun p => (h :: p.1, p.2) else none
/-- Hops and base. -/
def parse (l : List UInt8) : Option (List (List UInt8) × List UInt8) := parseW (words l)
def denomB (l : List UInt8) : Bool := decide (l.length ≤ 160) && (parse l).isSome
def hopsOf (l : List UInt8) : List (List UInt8) := match parse l with | some p => p.1 | none => []
def baseOf (l : List UInt8) : List UInt8 := match parse l with | some p => p.2 | none => []

/-- The program's way: one hop. -/
theorem parse_step (rest : List UInt8) : parse (port ++ rest) = match cutAt rest with | none => none | some (h, b) => if identB h = true then (parse b).map fun p => (h :: p.1, p.2) else none := by
  have e : port ++ rest = wTransfer ++ slash :: rest := rfl
  have hw : slash ∉ wTransfer := by decide
  unfold parse
  rw [e, words_some (cutAt_append _ _ hw)]
  rcases h : cutAt rest with _ | ⟨a, b⟩
  · rw [words_none h]; simp [parseW]
  · rw [words_some h]
    simp only [parseW]
    by_cases hi : identB a = true
    · simp [hi]
    · simp [hi]
theorem parse_end (l : List UInt8) (h : ¬ port <+: l) : parse l = if identB l = true then some ([], l) else none := by
  unfold parse
  rcases hc : cutAt l with _ | ⟨a, b⟩
  · rw [words_none hc]; rfl
  · rw [words_some hc]
    obtain ⟨e, ha⟩ := cutAt_some hc
    have hi : ¬ identB l = true := fun hi => ident_slash hi (by rw [e]; simp)
    rw [if_neg hi]
    have hne : a ≠ wTransfer := by
      rintro rfl
      exact h ⟨b, by rw [e]; rfl⟩
    rcases hb : words b with _ | ⟨h2, r⟩
    · exact absurd hb (words_ne b)
    · simp only [parseW]
      rw [if_neg (fun h => hne h.1)]

/-- The reference's way: over the words. -/
def evenOk (ws : List (List UInt8)) (i : Nat) : Bool := decide (ws.getD i [] = wTransfer) && identB (ws.getD (i + 1) [])
/-- The pairs up to the k-th. -/
def pairsTo (ws : List (List UInt8)) (k : Nat) : Bool := (List.range k).all fun j => evenOk ws (2 * j)
theorem pairsTo_succ (ws : List (List UInt8)) (k : Nat) : pairsTo ws (k + 1) = (pairsTo ws k && evenOk ws (2 * k)) := by simp [pairsTo, List.range_succ]
theorem pairsTo_false {ws : List (List UInt8)} {k j : Nat} (hj : j < k) (h : evenOk ws (2 * j) = false) : pairsTo ws k = false := by
  cases e : pairsTo ws k with
  | false => rfl
  | true => have := List.all_eq_true.1 e j (List.mem_range.2 hj); rw [h] at this; cases this
def wordsB (ws : List (List UInt8)) : Bool := !decide (ws.length % 2 = 0) && identB (ws.getD (ws.length - 1) []) && pairsTo ws (ws.length / 2)
theorem pairsTo_cons (t h : List UInt8) (r : List (List UInt8)) (k : Nat) : pairsTo (t :: h :: r) (k + 1) = (decide (t = wTransfer) && identB h && pairsTo r k) := by
  have e : ∀ j, evenOk (t :: h :: r) (2 * (j + 1)) = evenOk r (2 * j) := fun j => by
    unfold evenOk
    rw [show 2 * (j + 1) = 2 * j + 1 + 1 by omega]
    simp only [List.getD_cons_succ]
  unfold pairsTo
  rw [List.range_succ_eq_map, List.all_cons, List.all_map]
  have e0 : evenOk (t :: h :: r) (2 * 0) = (decide (t = wTransfer) && identB h) := by simp [evenOk]
  rw [e0]
  congr 1
theorem parseW_tells : ∀ ws : List (List UInt8), (parseW ws).isSome = wordsB ws ∧ ∀ p, parseW ws = some p → p.1.length = ws.length / 2 ∧ p.2 = ws.getD (ws.length - 1) [] ∧ ∀ h r, p.1 = h :: r → ws.getD 1 [] = h
  | [] => ⟨by simp [parseW, wordsB], fun p h => by simp [parseW] at h⟩
  | [b] => by
    rw [parseW]
    by_cases hb : identB b = true
    · rw [if_pos hb]
      refine ⟨by simp [wordsB, hb, pairsTo], ?_⟩
      rintro p hp
      cases hp
      exact ⟨by simp, by simp, fun h r e => by cases e⟩
    · rw [if_neg hb]
      exact ⟨by simp [wordsB, hb], fun p hp => by cases hp⟩
  | [t, h] => by
    have e : parseW [t, h] = none := by
      simp only [parseW]; split <;> rfl
    rw [e]
    exact ⟨by simp [wordsB], fun p hp => by cases hp⟩
  | t :: h :: x :: r => by
    obtain ⟨i1, i2⟩ := parseW_tells (x :: r)
    have hl : (t :: h :: x :: r).length = (x :: r).length + 2 := rfl
    have hlast : (t :: h :: x :: r).getD ((t :: h :: x :: r).length - 1) [] = (x :: r).getD ((x :: r).length - 1) [] := by
      rw [hl, show (x :: r).length + 2 - 1 = ((x :: r).length - 1) + 1 + 1 by simp]
      simp only [List.getD_cons_succ]
    have hw : wordsB (t :: h :: x :: r) = (decide (t = wTransfer) && identB h && wordsB (x :: r)) := by
      unfold wordsB
      rw [hlast, hl, show ((x :: r).length + 2) % 2 = (x :: r).length % 2 by omega, show ((x :: r).length + 2) / 2 = (x :: r).length / 2 + 1 by omega, pairsTo_cons]
      generalize (!decide ((x :: r).length % 2 = 0)) = b1
      generalize identB ((x :: r).getD ((x :: r).length - 1) []) = b2
      generalize pairsTo (x :: r) ((x :: r).length / 2) = b3
      generalize decide (t = wTransfer) = b4
      generalize identB h = b5
      cases b1 <;> cases b2 <;> cases b3 <;> cases b4 <;> cases b5 <;> rfl
    have he : parseW (t :: h :: x :: r) = if t = wTransfer ∧ identB h = true then (parseW (x :: r)).map fun p => (h :: p.1, p.2) else none := by simp only [parseW]
    rw [he, hw, ← i1]
    by_cases hc : t = wTransfer ∧ identB h = true
    · rw [if_pos hc]
      refine ⟨by simp [hc.1, hc.2], ?_⟩
      intro p hp
      rcases hq : parseW (x :: r) with _ | q
      · rw [hq] at hp; cases hp
      · rw [hq] at hp
        simp only [Option.map_some, Option.some.injEq] at hp
        subst hp
        obtain ⟨j1, j2, _⟩ := i2 q hq
        refine ⟨by rw [hl, List.length_cons, j1]; omega, by rw [hlast]; exact j2, ?_⟩
        intro h' r' e
        simp only [List.cons.injEq] at e
        rw [← e.1]; rfl
    · rw [if_neg hc]
      refine ⟨?_, fun p hp => by cases hp⟩
      have : (decide (t = wTransfer) && identB h) = false := by
        cases hx : (decide (t = wTransfer) && identB h) with
        | false => rfl
        | true =>
          simp only [Bool.and_eq_true, decide_eq_true_eq] at hx
          exact absurd hx hc
      rw [this]; rfl
theorem denom_words (l : List UInt8) : denomB l = (decide (l.length ≤ 160) && wordsB (words l)) := by
  unfold denomB parse; rw [(parseW_tells (words l)).1]

/-! ### One hop more -/
def overOf (hop s : List UInt8) : List UInt8 := port ++ hop ++ [slash] ++ s
theorem over_parse (hop s : List UInt8) (h : identB hop = true) : parse (overOf hop s) = (parse s).map fun p => (hop :: p.1, p.2) := by
  have e : overOf hop s = port ++ (hop ++ slash :: s) := by simp [overOf, List.append_assoc]
  rw [e, parse_step, cutAt_append _ _ (ident_slash h)]
  simp only [if_pos h]
theorem over_length (hop s : List UInt8) : (overOf hop s).length = s.length + hop.length + 10 := by
  simp only [overOf, port, List.length_append, List.length_cons, List.length_nil]; omega
theorem over_drop (hop s : List UInt8) : (overOf hop s).drop (9 + hop.length + 1) = s := by
  have e : overOf hop s = (port ++ hop ++ [slash]) ++ s := rfl
  have l : (port ++ hop ++ [slash]).length = 9 + hop.length + 1 := by simp [port]; omega
  rw [e, ← l, List.drop_left]
theorem over_denom (hop s : List UInt8) (h : identB hop = true) (hs : denomB s = true) : denomB (overOf hop s) = decide ((overOf hop s).length ≤ 160) := by
  unfold denomB at hs ⊢
  rw [over_parse hop s h]
  simp only [Bool.and_eq_true] at hs
  rw [Option.isSome_map, hs.2, Bool.and_true]
/-- What a denomination with hops is. -/
theorem parse_over : ∀ {l h : List UInt8} {r : List (List UInt8)} {b : List UInt8}, parse l = some (h :: r, b) → l = overOf h (l.drop (9 + h.length + 1)) ∧ identB h = true ∧ parse (l.drop (9 + h.length + 1)) = some (r, b) := by
  intro l h r b hp
  by_cases hpre : port <+: l
  · obtain ⟨rest, rfl⟩ := hpre
    rw [parse_step] at hp
    rcases hc : cutAt rest with _ | ⟨x, y⟩
    · rw [hc] at hp; cases hp
    · rw [hc] at hp
      simp only at hp
      by_cases hi : identB x = true
      · rw [if_pos hi] at hp
        rcases hq : parse y with _ | ⟨q1, q2⟩
        · rw [hq] at hp; cases hp
        · rw [hq] at hp
          simp only [Option.map_some, Option.some.injEq, Prod.mk.injEq, List.cons.injEq] at hp
          obtain ⟨⟨rfl, rfl⟩, rfl⟩ := hp
          have e : port ++ rest = overOf x y := by rw [(cutAt_some hc).1]; simp [overOf, List.append_assoc]
          rw [e, over_drop]
          exact ⟨rfl, hi, hq⟩
      · rw [if_neg hi] at hp; cases hp
  · rw [parse_end l hpre] at hp
    split at hp
    · simp at hp
    · cases hp
theorem parse_flat {l b : List UInt8} (h : parse l = some ([], b)) : b = l ∧ identB l = true := by
  by_cases hpre : port <+: l
  · obtain ⟨rest, rfl⟩ := hpre
    rw [parse_step] at h
    rcases hc : cutAt rest with _ | ⟨x, y⟩
    · rw [hc] at h; cases h
    · rw [hc] at h
      simp only at h
      split at h
      · rcases hq : parse y with _ | q
        · rw [hq] at h; cases h
        · rw [hq] at h; simp at h
      · cases h
  · rw [parse_end l hpre] at h
    split at h
    · rename_i hi
      simp only [Option.some.injEq, Prod.mk.injEq, true_and] at h
      exact ⟨h.symm, hi⟩
    · cases h
theorem ident_parse {l : List UInt8} (h : identB l = true) : parse l = some ([], l) := by
  rw [parse_end, if_pos h]
  rintro ⟨r, rfl⟩
  exact ident_slash h (by simp [port, slash])
theorem parse_base_ident : ∀ (n : Nat) {l : List UInt8} {r : List (List UInt8)} {b : List UInt8}, r.length = n → parse l = some (r, b) → identB b = true ∧ (b = l ↔ r = []) := by
  intro n
  induction n with
  | zero =>
    intro l r b hn h
    obtain rfl := List.eq_nil_of_length_eq_zero hn
    obtain ⟨rfl, hi⟩ := parse_flat h
    exact ⟨hi, by simp⟩
  | succ n ih =>
    intro l r b hn h
    cases r with
    | nil => simp at hn
    | cons x r =>
      obtain ⟨e, hi, hq⟩ := parse_over h
      obtain ⟨i1, _⟩ := ih (by simpa using hn) hq
      refine ⟨i1, ?_⟩
      constructor
      · rintro rfl
        exfalso
        apply ident_slash i1
        rw [e]; simp [overOf, port, slash]
      · intro e2; cases e2
end Go.Proofs.Yteceagldjnfeeaa
