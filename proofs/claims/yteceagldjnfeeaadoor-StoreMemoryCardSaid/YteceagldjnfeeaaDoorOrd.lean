/- Texts in order, and maps as lists by rising keys, in plain Lean. No program is walked here. -/
import GoSem.Op.String
namespace Go.Proofs.YteceagldjnfeeaaDoor
set_option linter.unusedVariables false
set_option linter.unusedSimpArgs false

/-! ### Texts in order -/
abbrev blt (a b : List UInt8) : Bool := Op.bytesLess a b
theorem blt_nil_right (a : List UInt8) : blt a [] = false := by cases a <;> rfl
theorem blt_nil_left (a : List UInt8) (h : a ≠ []) : blt [] a = true := by cases a with | nil => exact absurd rfl h | cons => rfl
theorem blt_cons (a b : UInt8) (x y : List UInt8) : blt (a :: x) (b :: y) = (decide (a < b) || (a == b && blt x y)) := rfl
theorem blt_irrefl : ∀ a : List UInt8, blt a a = false
  | [] => rfl
  | a :: x => by rw [blt_cons, blt_irrefl x]; simp
theorem blt_trans : ∀ a b c : List UInt8, blt a b = true → blt b c = true → blt a c = true
  | _, _, [], _, h => by rw [blt_nil_right] at h; cases h
  | _, [], _ :: _, h, _ => by rw [blt_nil_right] at h; cases h
  | [], _ :: _, _ :: _, _, _ => rfl
  | a :: x, b :: y, c :: z, h1, h2 => by
    rw [blt_cons] at h1 h2 ⊢
    simp only [Bool.or_eq_true, decide_eq_true_eq, Bool.and_eq_true, beq_iff_eq] at h1 h2 ⊢
    rcases h1 with h1 | ⟨rfl, h1⟩
    · rcases h2 with h2 | ⟨rfl, h2⟩
      · left
        rw [UInt8.lt_iff_toNat_lt] at *
        omega
      · exact .inl h1
    · rcases h2 with h2 | ⟨rfl, h2⟩
      · exact .inl h2
      · exact .inr ⟨rfl, blt_trans x y z h1 h2⟩
theorem blt_total : ∀ a b : List UInt8, a ≠ b → blt a b = false → blt b a = true
  | [], [], h, _ => absurd rfl h
  | [], _ :: _, _, h => by cases h
  | _ :: _, [], _, _ => rfl
  | a :: x, b :: y, h, h1 => by
    rw [blt_cons] at h1 ⊢
    simp only [Bool.or_eq_false_iff, decide_eq_false_iff_not, Bool.and_eq_false_iff, Bool.or_eq_true, decide_eq_true_eq, Bool.and_eq_true, beq_iff_eq, beq_eq_false_iff_ne] at h1 ⊢
    obtain ⟨h2, h3⟩ := h1
    by_cases e : a = b
    · subst e
      refine .inr ⟨rfl, blt_total x y (fun e => h (by rw [e])) ?_⟩
      rcases h3 with h3 | h3
      · exact absurd rfl h3
      · exact h3
    · left
      rw [UInt8.lt_iff_toNat_lt] at *
      have : a.toNat ≠ b.toNat := fun e2 => e (UInt8.toNat_inj.1 e2)
      omega
theorem blt_asymm (a b : List UInt8) (h : blt a b = true) : blt b a = false := by
  cases hb : blt b a with
  | false => rfl
  | true => have := blt_trans a b a h hb; rw [blt_irrefl] at this; cases this
theorem blt_ne (a b : List UInt8) (h : blt a b = true) : a ≠ b := by
  rintro rfl; rw [blt_irrefl] at h; cases h


/-! ### Maps by rising keys -/
abbrev SM (α : Type) := List (List UInt8 × α)
section
variable {α β : Type}
def Rise (m : SM α) : Prop := m.Pairwise fun a b => blt a.1 b.1 = true
def sget : SM α → List UInt8 → Option α
  | [], _ => none
  | e :: r, k => if e.1 = k then some e.2 else sget r k
def sput : SM α → List UInt8 → α → SM α
  | [], k, v => [(k, v)]
  | e :: r, k, v => if blt k e.1 = true then (k, v) :: e :: r else if e.1 = k then (k, v) :: r else e :: sput r k v
def sdel (m : SM α) (k : List UInt8) : SM α := m.filter fun e => decide (e.1 ≠ k)
theorem Rise.nil : Rise ([] : SM α) := List.Pairwise.nil
theorem Rise.tail {e : List UInt8 × α} {r : SM α} (h : Rise (e :: r)) : Rise r := (List.pairwise_cons.1 h).2
theorem Rise.head {e : List UInt8 × α} {r : SM α} (h : Rise (e :: r)) : ∀ x ∈ r, blt e.1 x.1 = true := (List.pairwise_cons.1 h).1
theorem sget_none {m : SM α} {k : List UInt8} (h : ∀ x ∈ m, x.1 ≠ k) : sget m k = none := by
  induction m with
  | nil => rfl
  | cons e r ih =>
    rw [sget, if_neg (h e (List.mem_cons_self ..))]
    exact ih fun x hx => h x (List.mem_cons_of_mem _ hx)
theorem sget_mem {m : SM α} {k : List UInt8} {v : α} (h : sget m k = some v) : (k, v) ∈ m := by
  induction m with
  | nil => cases h
  | cons e r ih =>
    rw [sget] at h
    by_cases he : e.1 = k
    · rw [if_pos he] at h
      cases h
      subst he
      exact List.mem_cons_self ..
    · rw [if_neg he] at h
      exact List.mem_cons_of_mem _ (ih h)
theorem sget_of_mem {m : SM α} (hr : Rise m) {k : List UInt8} {v : α} (h : (k, v) ∈ m) : sget m k = some v := by
  induction m with
  | nil => cases h
  | cons e r ih =>
    rw [sget]
    rcases List.mem_cons.1 h with rfl | h
    · rw [if_pos rfl]
    · rw [if_neg (fun he => blt_ne _ _ (hr.head _ h) he)]
      exact ih hr.tail h
theorem sput_mem {m : SM α} {k : List UInt8} {v : α} {x : List UInt8 × α} (h : x ∈ sput m k v) : x = (k, v) ∨ x ∈ m := by
  induction m with
  | nil => exact .inl (List.mem_singleton.1 h)
  | cons e r ih =>
    rw [sput] at h
    split at h
    · rcases List.mem_cons.1 h with h | h
      · exact .inl h
      · exact .inr h
    · split at h
      · rcases List.mem_cons.1 h with h | h
        · exact .inl h
        · exact .inr (List.mem_cons_of_mem _ h)
      · rcases List.mem_cons.1 h with h | h
        · exact .inr (h ▸ List.mem_cons_self ..)
        · rcases ih h with h | h
          · exact .inl h
          · exact .inr (List.mem_cons_of_mem _ h)
theorem sput_rise {m : SM α} (hr : Rise m) (k : List UInt8) (v : α) : Rise (sput m k v) := by
  induction m with
  | nil => exact List.pairwise_singleton _ _
  | cons e r ih =>
    rw [sput]
    by_cases h1 : blt k e.1 = true
    · rw [if_pos h1]
      refine List.pairwise_cons.2 ⟨fun x hx => ?_, hr⟩
      rcases List.mem_cons.1 hx with rfl | hx
      · exact h1
      · exact blt_trans _ _ _ h1 (hr.head x hx)
    · rw [if_neg h1]
      by_cases h2 : e.1 = k
      · rw [if_pos h2]
        subst h2
        exact List.pairwise_cons.2 ⟨fun x hx => hr.head x hx, hr.tail⟩
      · rw [if_neg h2]
        refine List.pairwise_cons.2 ⟨fun x hx => ?_, ih hr.tail⟩
        rcases sput_mem hx with rfl | hx
        · exact blt_total _ _ (fun e2 => h2 e2.symm) (by simpa using h1)
        · exact hr.head x hx
theorem sget_sput {m : SM α} (hr : Rise m) (k : List UInt8) (v : α) (q : List UInt8) : sget (sput m k v) q = if k = q then some v else sget m q := by
  induction m with
  | nil => rfl
  | cons e r ih =>
    rw [sput]
    by_cases h1 : blt k e.1 = true
    · rw [if_pos h1, sget]
    · rw [if_neg h1]
      by_cases h2 : e.1 = k
      · rw [if_pos h2, sget, sget]
        by_cases hq : k = q
        · rw [if_pos hq, if_pos hq]
        · rw [if_neg hq, if_neg hq, if_neg (by rw [h2]; exact hq)]
      · rw [if_neg h2, sget, sget, ih hr.tail]
        by_cases he : e.1 = q
        · rw [if_pos he, if_pos he, if_neg (fun hq => h2 (he.trans hq.symm))]
        · rw [if_neg he, if_neg he]
theorem sput_perm {m : SM α} (hr : Rise m) (k : List UInt8) (v : α) : (sput m k v).Perm ((k, v) :: sdel m k) := by
  induction m with
  | nil => exact List.Perm.refl _
  | cons e r ih =>
    rw [sput]
    by_cases h1 : blt k e.1 = true
    · rw [if_pos h1]
      have : sdel (e :: r) k = e :: r := by
        unfold sdel
        rw [List.filter_eq_self]
        intro x hx
        rcases List.mem_cons.1 hx with rfl | hx
        · exact decide_eq_true (fun h => blt_ne _ _ h1 h.symm)
        · exact decide_eq_true (fun h => blt_ne _ _ (blt_trans _ _ _ h1 (hr.head x hx)) h.symm)
      rw [this]
    · rw [if_neg h1]
      by_cases h2 : e.1 = k
      · rw [if_pos h2]
        have : sdel (e :: r) k = r := by
          unfold sdel
          rw [List.filter_cons_of_neg (by simp [h2])]
          rw [List.filter_eq_self]
          intro x hx
          exact decide_eq_true (fun h => blt_ne _ _ (hr.head x hx) (h2.trans h.symm))
        rw [this]
      · rw [if_neg h2]
        have : sdel (e :: r) k = e :: sdel r k := by
          unfold sdel
          rw [List.filter_cons_of_pos (by simp [h2])]
        rw [this]
        exact ((ih hr.tail).cons e).trans (List.Perm.swap _ _ _)
theorem sdel_rise {m : SM α} (hr : Rise m) (k : List UInt8) : Rise (sdel m k) := hr.sublist List.filter_sublist
theorem sget_sdel (m : SM α) (k q : List UInt8) : sget (sdel m k) q = if k = q then none else sget m q := by
  induction m with
  | nil => simp [sdel, sget]
  | cons e r ih =>
    unfold sdel at ih ⊢
    by_cases h : e.1 = k
    · rw [List.filter_cons_of_neg (by simp [h]), ih, sget]
      by_cases hq : k = q
      · rw [if_pos hq, if_pos hq]
      · rw [if_neg hq, if_neg hq, if_neg (by rw [h]; exact hq)]
    · rw [List.filter_cons_of_pos (by simp [h]), sget, ih, sget]
      by_cases hq : k = q
      · rw [if_pos hq, if_pos hq, if_neg (by rw [← hq]; exact h)]
      · rw [if_neg hq, if_neg hq]
theorem rise_ext : ∀ {a b : SM α}, Rise a → Rise b → (∀ k, sget a k = sget b k) → a = b
  | [], [], _, _, _ => rfl
  | [], e :: r, _, _, h => by have := h e.1; rw [sget, sget, if_pos rfl] at this; cases this
  | e :: r, [], _, _, h => by have := h e.1; rw [sget, sget, if_pos rfl] at this; cases this
  | e :: r, f :: s, ha, hb, h => by
    have hkey : e.1 = f.1 := by
      apply Classical.byContradiction
      intro hne
      cases hlt : blt e.1 f.1 with
      | true =>
        have h1 := h e.1
        rw [sget, if_pos rfl, sget, if_neg (fun he => hne he.symm), sget_none] at h1
        · cases h1
        · intro x hx he
          have := hb.head x hx
          rw [he] at this
          exact blt_ne _ _ (blt_trans _ _ _ hlt this) rfl
      | false =>
        have hgt := blt_total _ _ hne hlt
        have h1 := h f.1
        rw [sget, if_neg hne, sget, if_pos rfl, sget_none] at h1
        · cases h1
        · intro x hx he
          have := ha.head x hx
          rw [he] at this
          exact blt_ne _ _ (blt_trans _ _ _ hgt this) rfl
    have hval : e.2 = f.2 := by
      have h1 := h e.1
      rw [sget, if_pos rfl, sget, if_pos hkey.symm] at h1
      exact Option.some.inj h1
    have hef : e = f := Prod.ext hkey hval
    subst hef
    congr 1
    refine rise_ext ha.tail hb.tail fun k => ?_
    have h1 := h k
    rw [sget, sget] at h1
    by_cases hk : e.1 = k
    · rw [sget_none, sget_none]
      · intro x hx he; exact blt_ne _ _ (hb.head x hx) (hk.trans he.symm)
      · intro x hx he; exact blt_ne _ _ (ha.head x hx) (hk.trans he.symm)
    · rw [if_neg hk, if_neg hk] at h1
      exact h1
theorem rise_snoc {m : SM α} (hr : Rise m) (e : List UInt8 × α) (h : ∀ x ∈ m, blt x.1 e.1 = true) : Rise (m ++ [e]) :=
  List.pairwise_append.2 ⟨hr, List.pairwise_singleton _ _, fun x hx y hy => by rw [List.mem_singleton.1 hy]; exact h x hx⟩
theorem sput_snoc {m : SM α} (k : List UInt8) (v : α) (h : ∀ x ∈ m, blt x.1 k = true) : sput m k v = m ++ [(k, v)] := by
  induction m with
  | nil => rfl
  | cons e r ih =>
    have h1 := h e (List.mem_cons_self ..)
    rw [sput, if_neg (by rw [blt_asymm _ _ h1]; simp), if_neg (blt_ne _ _ h1), ih fun x hx => h x (List.mem_cons_of_mem _ hx)]
    rfl
theorem rise_filter {m : SM α} (hr : Rise m) (p : List UInt8 × α → Bool) : Rise (m.filter p) := hr.sublist List.filter_sublist
theorem rise_map {m : SM α} (hr : Rise m) (f : α → β) : Rise (m.map fun e => (e.1, f e.2)) := by
  unfold Rise
  rw [List.pairwise_map]
  exact hr
theorem sget_filter {m : SM α} (hr : Rise m) (p : List UInt8 × α → Bool) (k : List UInt8) : sget (m.filter p) k = (sget m k).bind fun v => if p (k, v) then some v else none := by
  induction m with
  | nil => rfl
  | cons e r ih =>
    by_cases hk : e.1 = k
    · subst hk
      have h0 : ∀ q : SM α, (∀ x ∈ q, x ∈ r) → sget q e.1 = none := fun q hq => sget_none fun x hx he => blt_ne _ _ (hr.head x (hq x hx)) he.symm
      rw [sget, if_pos rfl]
      simp only [Option.bind_some]
      by_cases hp : p e = true
      · rw [List.filter_cons_of_pos hp, sget, if_pos rfl, if_pos hp]
      · rw [List.filter_cons_of_neg hp, if_neg hp]
        exact h0 _ fun x hx => (List.mem_filter.1 hx).1
    · have h1 : sget (e :: r) k = sget r k := by rw [sget, if_neg hk]
      rw [h1, ← ih hr.tail]
      by_cases hp : p e = true
      · rw [List.filter_cons_of_pos hp, sget, if_neg hk]
      · rw [List.filter_cons_of_neg hp]
theorem sget_map (m : SM α) (f : α → β) (k : List UInt8) : sget (m.map fun e => (e.1, f e.2)) k = (sget m k).map f := by
  induction m with
  | nil => rfl
  | cons e r ih =>
    rw [List.map_cons, sget, sget]
    by_cases hk : e.1 = k
    · rw [if_pos hk, if_pos hk]; rfl
    · rw [if_neg hk, if_neg hk]; exact ih
/-- All of one laid over another. -/
def sover (a : SM α) : SM α → SM α
  | [] => a
  | e :: r => sover (sput a e.1 e.2) r
theorem sover_rise (b : SM α) : ∀ {a : SM α}, Rise a → Rise (sover a b) := by
  induction b with
  | nil => intro a h; exact h
  | cons e r ih => intro a h; exact ih (sput_rise h _ _)
theorem sget_sover {b : SM α} (hb : Rise b) : ∀ {a : SM α}, Rise a → ∀ k, sget (sover a b) k = (sget b k).or (sget a k) := by
  induction b with
  | nil => intro a _ k; rfl
  | cons e r ih =>
    intro a ha k
    rw [sover, ih hb.tail (sput_rise ha _ _) k, sget_sput ha, sget]
    by_cases hk : e.1 = k
    · rw [if_pos hk, if_pos hk, sget_none]
      · rfl
      · intro x hx he; exact blt_ne _ _ (hb.head x hx) (hk.trans he.symm)
    · rw [if_neg hk, if_neg hk]
end
end Go.Proofs.YteceagldjnfeeaaDoor
