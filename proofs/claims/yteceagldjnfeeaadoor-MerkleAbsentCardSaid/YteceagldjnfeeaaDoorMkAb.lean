/- Small laws for the walk of isthmusref08.Absent. -/
import Derived.Test.YteceagldjnfeeaaDoorMk10
import Derived.Test.YteceagldjnfeeaaDoorMk15
namespace Go.Proofs.YteceagldjnfeeaaDoor
open Go.RowKit
set_option linter.unusedVariables false
set_option linter.unusedSimpArgs false

theorem absentV_1n {root key : List UInt8} {n : Int} {l : LeafV} (h1 : holdsV root n l = false) : absentV root key ⟨n, [l]⟩ = false := by
  unfold absentV; simp [h1]
theorem absentV_2n {root key : List UInt8} {n : Int} {l m : LeafV} (h1 : holdsV root n l = false) : absentV root key ⟨n, [l, m]⟩ = false := by
  unfold absentV; simp [h1]
theorem absentV_2m {root key : List UInt8} {n : Int} {l m : LeafV} (h1 : holdsV root n m = false) : absentV root key ⟨n, [l, m]⟩ = false := by
  unfold absentV; simp [h1]

theorem eight {A x z : Bool} {key lk : List UInt8} (h : A = (x && Op.bytesLess key lk || z && Op.bytesLess lk key)) :
    (x = true ∧ Op.bytesLess lk key = false ∧ (lk == key) = false ∧ ¬ lk = key ∧ A = true) ∨
    (x = true ∧ Op.bytesLess lk key = true ∧ True ∧ z = false ∧ A = false) ∨ (x = true ∧ Op.bytesLess lk key = true ∧ True ∧ z = true ∧ A = true) ∨
    (x = true ∧ Op.bytesLess lk key = false ∧ (lk == key) = true ∧ z = false ∧ A = false) ∨ (x = true ∧ Op.bytesLess lk key = false ∧ (lk == key) = true ∧ z = true ∧ A = false) ∨
    (x = false ∧ z = false ∧ A = false) ∨ (x = false ∧ z = true ∧ Op.bytesLess lk key = false ∧ A = false) ∨ (x = false ∧ z = true ∧ Op.bytesLess lk key = true ∧ A = true) := by
  subst h
  rcases hy : Op.bytesLess key lk with _ | _
  · have h3 := ble_true (a := lk) (b := key) hy
    rcases hu : Op.bytesLess lk key with _ | _
    · rw [hu, Bool.false_or] at h3
      rw [h3]
      cases x <;> cases z <;> simp
    · cases x <;> cases z <;> simp
  · obtain ⟨h1, h2⟩ := ble_false (a := lk) (b := key) hy
    have h3 : ¬ lk = key := by simpa using h2
    rw [h1, h2]
    cases x <;> cases z <;> simp [h3]
theorem four {A a b c : Bool} (h : A = (a && b && c)) : (a = false ∧ A = false) ∨ (a = true ∧ b = false ∧ A = false) ∨ (a = true ∧ b = true ∧ c = false ∧ A = false) ∨ (a = true ∧ b = true ∧ c = true ∧ A = true) := by
  subst h; cases a <;> cases b <;> cases c <;> simp

end Go.Proofs.YteceagldjnfeeaaDoor
