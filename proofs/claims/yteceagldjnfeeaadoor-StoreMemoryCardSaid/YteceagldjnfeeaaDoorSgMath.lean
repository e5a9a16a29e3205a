/- Signatures out of hashes, in plain Lean. No program is walked here. -/
import Derived.Test.YteceagldjnfeeaaDoorTag
namespace Go.Proofs.YteceagldjnfeeaaDoor
set_option linter.unusedVariables false
set_option linter.unusedSimpArgs false

def wStep : List UInt8 := [115, 116, 101, 112]
def wSecret : List UInt8 := [115, 101, 99, 114, 101, 116]
def wLeaf : List UInt8 := [108, 101, 97, 102]
def wNode : List UInt8 := [110, 111, 100, 101]
def wSigned : List UInt8 := [115, 105, 103, 110, 101, 100]

def step (c i : Nat) (v : List UInt8) : List UInt8 := tagged wStep [be8 c, be8 i, v]
/-- n steps of chain c from place f on. -/
def chain (c f : Nat) : Nat → List UInt8 → List UInt8
  | 0, v => v
  | n + 1, v => step c (f + n) (chain c f n v)
theorem chain_add (c f m n : Nat) (v : List UInt8) : chain c f (m + n) v = chain c (f + m) n (chain c f m v) := by
  induction n with
  | zero => rfl
  | succ n ih => rw [Nat.add_succ, chain, chain, ih, Nat.add_assoc]
theorem chain_length (c f n : Nat) (v : List UInt8) (h : v.length = 32) : (chain c f n v).length = 32 := by
  cases n with
  | zero => exact h
  | succ n => exact tagged_length _ _
def secretOf (seed : List UInt8) (k c : Nat) : List UInt8 := tagged wSecret [seed, be8 k, be8 c]
theorem secretOf_length (seed : List UInt8) (k c : Nat) : (secretOf seed k c).length = 32 := tagged_length _ _
def leafOf (k : Nat) (ends : List (List UInt8)) : List UInt8 := tagged wLeaf (be8 k :: ends)
def endsOf (seed : List UInt8) (k : Nat) : List (List UInt8) := (List.range 18).map fun c => chain c 0 15 (secretOf seed k c)
def leavesOf (seed : List UInt8) : List (List UInt8) := (List.range 8).map fun k => leafOf k (endsOf seed k)
def node (a b : List UInt8) : List UInt8 := tagged wNode [a, b]
def above : List (List UInt8) → List (List UInt8)
  | a :: b :: r => node a b :: above r
  | _ => []
def levelOf (seed : List UInt8) : Nat → List (List UInt8)
  | 0 => leavesOf seed
  | n + 1 => above (levelOf seed n)
def rootOf (seed : List UInt8) : List UInt8 := (levelOf seed 3).getD 0 []

def hiLo (h : List UInt8) : List Nat := (h.map fun b => [b.toNat / 16, b.toNat % 16]).flatten
def restOf (ds : List Nat) : Nat := (ds.map fun d => 15 - d).sum
def digitsH (h : List UInt8) : List Nat := hiLo (h.take 8) ++ [restOf (hiLo (h.take 8)) / 16, restOf (hiLo (h.take 8)) % 16]
def digits (root : List UInt8) (key : Nat) (msg : List UInt8) : List Nat := digitsH (tagged wSigned [root, be8 key, msg])

theorem hiLo_snoc (l : List UInt8) (b : UInt8) : hiLo (l ++ [b]) = hiLo l ++ [b.toNat / 16, b.toNat % 16] := by simp [hiLo]
theorem hiLo_take (l : List UInt8) (k : Nat) (h : k < l.length) : hiLo (l.take (k + 1)) = hiLo (l.take k) ++ [l[k].toNat / 16, l[k].toNat % 16] := by
  rw [List.take_succ_eq_append_getElem h, hiLo_snoc]
theorem hiLo_length (l : List UInt8) : (hiLo l).length = 2 * l.length := by
  induction l with
  | nil => rfl
  | cons b l ih =>
    have : hiLo (b :: l) = [b.toNat / 16, b.toNat % 16] ++ hiLo l := by simp [hiLo]
    rw [this, List.length_append, ih]
    simp only [List.length_cons, List.length_nil]
    omega
theorem hiLo_le (l : List UInt8) : ∀ d ∈ hiLo l, d ≤ 15 := by
  intro d hd
  simp only [hiLo, List.mem_flatten, List.mem_map] at hd
  obtain ⟨_, ⟨b, _, rfl⟩, hd⟩ := hd
  have := b.toNat_lt
  simp only [List.mem_cons, List.not_mem_nil, or_false] at hd
  omega
theorem restOf_append (a b : List Nat) : restOf (a ++ b) = restOf a + restOf b := by simp [restOf]
theorem restOf_le (ds : List Nat) : restOf ds ≤ 15 * ds.length := by
  induction ds with
  | nil => simp [restOf]
  | cons d ds ih =>
    have : restOf (d :: ds) = (15 - d) + restOf ds := by simp [restOf]
    rw [this, List.length_cons]
    omega
theorem digitsH_length (h : List UInt8) (hl : h.length = 32) : (digitsH h).length = 18 := by
  rw [digitsH, List.length_append, hiLo_length, List.length_take, hl]; rfl
theorem digitsH_le (h : List UInt8) (hl : h.length = 32) : ∀ d ∈ digitsH h, d ≤ 15 := by
  intro d hd
  rw [digitsH, List.mem_append] at hd
  have hr := restOf_le (hiLo (h.take 8))
  rw [hiLo_length, List.length_take, hl] at hr
  rcases hd with hd | hd
  · exact hiLo_le _ d hd
  · simp only [List.mem_cons, List.not_mem_nil, or_false] at hd
    omega
theorem digits_length (root : List UInt8) (key : Nat) (msg : List UInt8) : (digits root key msg).length = 18 := digitsH_length _ (tagged_length _ _)
theorem digits_le (root : List UInt8) (key : Nat) (msg : List UInt8) : ∀ d ∈ digits root key msg, d ≤ 15 := digitsH_le _ (tagged_length _ _)
/-- A digit by its number. -/
def digitAt (ds : List Nat) (c : Nat) : Nat := ds.getD c 0
theorem digitAt_le (root : List UInt8) (key : Nat) (msg : List UInt8) (c : Nat) : digitAt (digits root key msg) c ≤ 15 := by
  unfold digitAt
  rw [List.getD_eq_getElem?_getD]
  rcases h : (digits root key msg)[c]? with _ | d
  · simp
  · exact digits_le root key msg d (List.mem_of_getElem? h)

/-- The other of two. -/
def beside (i : Nat) : Nat := i ^^^ 1
/-- The signature, its chains first. -/
def chainsOf (seed : List UInt8) (key : Nat) (ds : List Nat) (n : Nat) : List UInt8 := ((List.range n).map fun c => chain c 0 (digitAt ds c) (secretOf seed key c)).flatten
def pathOf (seed : List UInt8) (key n : Nat) : List UInt8 := ((List.range n).map fun l => (levelOf seed l).getD (beside (key / 2 ^ l)) []).flatten
def sigOf (seed : List UInt8) (key : Nat) (msg : List UInt8) : List UInt8 := chainsOf seed key (digits (rootOf seed) key msg) 18 ++ pathOf seed key 3
theorem chainsOf_succ (seed : List UInt8) (key : Nat) (ds : List Nat) (n : Nat) : chainsOf seed key ds (n + 1) = chainsOf seed key ds n ++ chain n 0 (digitAt ds n) (secretOf seed key n) := by
  simp [chainsOf, List.range_succ]
theorem pathOf_succ (seed : List UInt8) (key n : Nat) : pathOf seed key (n + 1) = pathOf seed key n ++ (levelOf seed n).getD (beside (key / 2 ^ n)) [] := by
  simp [pathOf, List.range_succ]

def pieceOf (sig : List UInt8) (i : Nat) : List UInt8 := (sig.drop (32 * i)).take 32
/-- Up the tree from a leaf, the others beside the way given. -/
def climb (key : Nat) (b : Nat → List UInt8) : Nat → List UInt8 → List UInt8
  | 0, h => h
  | n + 1, h => if key / 2 ^ n % 2 = 0 then node (climb key b n h) (b n) else node (b n) (climb key b n h)
def verifyOf (root : List UInt8) (key : Nat) (msg sig : List UInt8) : Bool :=
  decide (climb key (fun l => pieceOf sig (18 + l)) 3 (leafOf key ((List.range 18).map fun c => chain c (digitAt (digits root key msg) c) (15 - digitAt (digits root key msg) c) (pieceOf sig c))) = root)

/-! ### What is signed is verified -/
theorem above_length : ∀ l : List (List UInt8), (above l).length = l.length / 2
  | [] => rfl
  | [_] => by simp [above]
  | a :: b :: r => by
    have := above_length r
    simp only [above, List.length_cons]
    omega
theorem above_get : ∀ (l : List (List UInt8)) (i : Nat), 2 * i + 1 < l.length → (above l).getD i [] = node (l.getD (2 * i) []) (l.getD (2 * i + 1) [])
  | [], i, h => by simp at h
  | [_], i, h => by simp at h
  | a :: b :: r, 0, h => by simp [above]
  | a :: b :: r, i + 1, h => by
    have ih := above_get r i (by simp only [List.length_cons] at h; omega)
    have e1 : 2 * (i + 1) = 2 * i + 2 := by omega
    rw [e1]
    simp only [above, List.getD_cons_succ]
    exact ih
theorem leavesOf_length (seed : List UInt8) : (leavesOf seed).length = 8 := by simp [leavesOf]
theorem levelOf_length (seed : List UInt8) (n : Nat) (h : n ≤ 3) : (levelOf seed n).length = 8 / 2 ^ n := by
  have : n = 0 ∨ n = 1 ∨ n = 2 ∨ n = 3 := by omega
  rcases this with rfl | rfl | rfl | rfl <;> simp [levelOf, above_length, leavesOf_length]
theorem node_length (a b : List UInt8) : (node a b).length = 32 := tagged_length _ _
theorem above_all32 : ∀ (l : List (List UInt8)), ∀ x ∈ above l, x.length = 32
  | [], x, h => by cases h
  | [_], x, h => by cases h
  | a :: b :: r, x, h => by
    simp only [above, List.mem_cons] at h
    rcases h with rfl | h
    · exact node_length _ _
    · exact above_all32 r x h
theorem leavesOf_all32 (seed : List UInt8) : ∀ x ∈ leavesOf seed, x.length = 32 := by
  intro x hx
  simp only [leavesOf, List.mem_map] at hx
  obtain ⟨k, _, rfl⟩ := hx
  exact tagged_length _ _
theorem levelOf_all32 (seed : List UInt8) (n : Nat) : ∀ x ∈ levelOf seed n, x.length = 32 := by
  cases n with
  | zero => exact leavesOf_all32 seed
  | succ n => exact above_all32 _
theorem levelOf_at32 (seed : List UInt8) (n i : Nat) (hn : n ≤ 3) (hi : i < 8 / 2 ^ n) : ((levelOf seed n).getD i []).length = 32 := by
  have hl := levelOf_length seed n hn
  rw [List.getD_eq_getElem?_getD, List.getElem?_eq_getElem (by omega)]
  exact levelOf_all32 seed n _ (List.getElem_mem _)
theorem rootOf_length (seed : List UInt8) : (rootOf seed).length = 32 := levelOf_at32 seed 3 0 (by omega) (by decide)

theorem beside_eq (i : Nat) : beside i = if i % 2 = 0 then i + 1 else i - 1 := by
  unfold beside
  by_cases h : i % 2 = 0
  · rw [if_pos h]
    have : i ^^^ 1 = i + 1 := by
      have h2 : i = 2 * (i / 2) := by omega
      rw [h2]
      apply Nat.eq_of_testBit_eq
      intro j
      cases j with
      | zero => simp [Nat.testBit_zero]
      | succ j =>
        rw [Nat.testBit_xor]
        simp only [Nat.testBit_succ]
        have e1 : (2 * (i / 2) + 1) / 2 = i / 2 := by omega
        have e2 : 2 * (i / 2) / 2 = i / 2 := by omega
        rw [e1, e2]
        simp
    exact this
  · rw [if_neg h]
    apply Nat.eq_of_testBit_eq
    intro j
    cases j with
    | zero =>
      simp only [Nat.testBit_zero, Nat.testBit_xor]
      have h1 : i % 2 = 1 := by omega
      have h2 : (i - 1) % 2 = 0 := by omega
      simp [h1, h2]
    | succ j =>
      rw [Nat.testBit_xor]
      simp only [Nat.testBit_succ]
      have e1 : (i - 1) / 2 = i / 2 := by omega
      rw [e1]
      simp
theorem level_up (seed : List UInt8) (n i : Nat) (hn : n < 3) (hi : i < 8 / 2 ^ n) :
    (levelOf seed (n + 1)).getD (i / 2) [] = if i % 2 = 0 then node ((levelOf seed n).getD i []) ((levelOf seed n).getD (beside i) []) else node ((levelOf seed n).getD (beside i) []) ((levelOf seed n).getD i []) := by
  have hl := levelOf_length seed n (by omega)
  have h8 : 8 / 2 ^ n = 2 ∨ 8 / 2 ^ n = 4 ∨ 8 / 2 ^ n = 8 := by
    have : n = 0 ∨ n = 1 ∨ n = 2 := by omega
    rcases this with rfl | rfl | rfl <;> decide
  have hg := above_get (levelOf seed n) (i / 2) (by rw [hl]; omega)
  rw [levelOf, hg, beside_eq]
  by_cases h : i % 2 = 0
  · rw [if_pos h, if_pos h, show 2 * (i / 2) = i by omega]
  · rw [if_neg h, if_neg h, show 2 * (i / 2) = i - 1 by omega, show i - 1 + 1 = i by omega]
theorem climb_level (seed : List UInt8) (key : Nat) (hk : key < 8) (b : Nat → List UInt8) (hb : ∀ l, l < 3 → b l = (levelOf seed l).getD (beside (key / 2 ^ l)) []) (n : Nat) (hn : n ≤ 3) :
    climb key b n ((leavesOf seed).getD key []) = (levelOf seed n).getD (key / 2 ^ n) [] := by
  induction n with
  | zero => simp [climb, levelOf]
  | succ n ih =>
    have hi : key / 2 ^ n < 8 / 2 ^ n := by
      have : n = 0 ∨ n = 1 ∨ n = 2 := by omega
      rcases this with rfl | rfl | rfl <;> omega
    rw [climb, ih (by omega), hb n (by omega), Nat.pow_succ, ← Nat.div_div_eq_div_mul, level_up seed n _ (by omega) hi]

theorem pieces_at (f : Nat → List UInt8) (n i : Nat) (h32 : ∀ j, j < n → (f j).length = 32) (hi : i < n) (rest : List UInt8) : pieceOf (((List.range n).map f).flatten ++ rest) i = f i := by
  induction n with
  | zero => omega
  | succ n ih =>
    have hlen : ∀ m, m ≤ n → (((List.range m).map f).flatten).length = 32 * m := by
      intro m hm
      induction m with
      | zero => rfl
      | succ m ih2 =>
        rw [List.range_succ, List.map_append, List.flatten_append, List.length_append, ih2 (by omega)]
        simp [h32 m (by omega)]
        omega
    have hl := hlen n (Nat.le_refl _)
    have e : ((List.range (n + 1)).map f).flatten ++ rest = ((List.range n).map f).flatten ++ (f n ++ rest) := by
      rw [List.range_succ]; simp
    rw [e]
    by_cases hin : i = n
    · subst hin
      unfold pieceOf
      rw [show 32 * i = (((List.range i).map f).flatten).length from hl.symm, List.drop_left, List.take_append_of_le_length (by rw [h32 i (by omega)]; omega), List.take_of_length_le (by rw [h32 i (by omega)]; omega)]
    · have h1 := ih (fun j hj => h32 j (by omega)) (by omega)
      unfold pieceOf at h1 ⊢
      rw [List.drop_append_of_le_length (by rw [hl]; omega), List.take_append_of_le_length (by rw [List.length_drop, hl]; omega)]
      rw [List.drop_append_of_le_length (by rw [hl]; omega), List.take_append_of_le_length (by rw [List.length_drop, hl]; omega)] at h1
      exact h1
theorem flat_length (f : Nat → List UInt8) (n : Nat) (h32 : ∀ j, j < n → (f j).length = 32) : (((List.range n).map f).flatten).length = 32 * n := by
  induction n with
  | zero => rfl
  | succ n ih =>
    rw [List.range_succ, List.map_append, List.flatten_append, List.length_append, ih (fun j hj => h32 j (by omega))]
    simp [h32 n (by omega)]
    omega
theorem chainsOf_32 (seed : List UInt8) (key : Nat) (ds : List Nat) (j : Nat) : (chain j 0 (digitAt ds j) (secretOf seed key j)).length = 32 := chain_length _ _ _ _ (secretOf_length _ _ _)
theorem path_32 (seed : List UInt8) (key : Nat) (hk : key < 8) (l : Nat) (hl : l < 3) : ((levelOf seed l).getD (beside (key / 2 ^ l)) []).length = 32 := by
  refine levelOf_at32 seed l _ (by omega) ?_
  rw [beside_eq]
  have : l = 0 ∨ l = 1 ∨ l = 2 := by omega
  rcases this with rfl | rfl | rfl <;> split <;> omega
theorem sigOf_length (seed : List UInt8) (key : Nat) (msg : List UInt8) (hk : key < 8) : (sigOf seed key msg).length = 672 := by
  rw [sigOf, List.length_append, chainsOf, pathOf, flat_length _ 18 (fun j _ => chainsOf_32 _ _ _ j), flat_length _ 3 (fun j hj => path_32 _ _ hk j hj)]
theorem pieces_past (A B : List UInt8) (i : Nat) (hA : A.length = 576) : pieceOf (A ++ B) (18 + i) = pieceOf B i := by
  unfold pieceOf
  rw [show 32 * (18 + i) = A.length + 32 * i by omega, ← List.drop_drop, List.drop_left]
theorem signed_verifies (seed : List UInt8) (key : Nat) (msg : List UInt8) (hk : key < 8) : verifyOf (rootOf seed) key msg (sigOf seed key msg) = true := by
  unfold verifyOf
  rw [decide_eq_true_iff]
  have e1 : ((List.range 18).map fun c => chain c (digitAt (digits (rootOf seed) key msg) c) (15 - digitAt (digits (rootOf seed) key msg) c) (pieceOf (sigOf seed key msg) c)) = endsOf seed key := by
    unfold endsOf
    refine List.map_congr_left fun c hc => ?_
    have hc' := List.mem_range.1 hc
    have hd := digitAt_le (rootOf seed) key msg c
    rw [sigOf, chainsOf, pieces_at _ 18 c (fun j _ => chainsOf_32 _ _ _ j) hc']
    have := chain_add c 0 (digitAt (digits (rootOf seed) key msg) c) (15 - digitAt (digits (rootOf seed) key msg) c) (secretOf seed key c)
    rw [Nat.zero_add, show digitAt (digits (rootOf seed) key msg) c + (15 - digitAt (digits (rootOf seed) key msg) c) = 15 by omega] at this
    exact this.symm
  rw [e1]
  have e2 : leafOf key (endsOf seed key) = (leavesOf seed).getD key [] := by
    rw [List.getD_eq_getElem?_getD, leavesOf, List.getElem?_map, List.getElem?_range hk]; rfl
  rw [e2, climb_level seed key hk _ ?_ 3 (by omega), rootOf]
  · congr 1
    omega
  · intro l hl
    rw [sigOf, pieces_past _ _ _ (by rw [chainsOf, flat_length _ 18 (fun j _ => chainsOf_32 _ _ _ j)])]
    have := pieces_at (fun l => (levelOf seed l).getD (beside (key / 2 ^ l)) []) 3 l (fun j hj => path_32 _ _ hk j hj) hl []
    rw [List.append_nil] at this
    exact this
end Go.Proofs.YteceagldjnfeeaaDoor
