/- More of the frame: what a slice of bytes, a text, a number inside a struct reads as; the bounds on their sizes, of both forms. -/
import Derived.Test.YteceagldjnfeeaaDoorFrame
import Derived.Lib.SmallJoins
namespace Go.Proofs.YteceagldjnfeeaaDoor
open Go.ChangeShapes Go.WideShapes Go.ChangeAt Go.RowKit
set_option linter.unusedVariables false
set_option linter.unusedSimpArgs false

/-- The length of what a slice reads as. -/
def readLen {H : Type} : DataW H → Nat
  | .slice elems spare => elems.length + spare.length
  | _ => 0

theorem open_bsv {H : Type} {enc : TypeId × Value → H} {W : World} {v : Value} {fuel : Nat} {x : DataW H × List MemPlace} (hf : DataW.trod enc Tryd.prog W 0 (fun _ => true) true fuel 22 [v] = some x) :
    ∃ a n c l, v = .slice a n c ∧ Bs W a n c l ∧ n ≤ readLen x.1 := by
  obtain ⟨a, n, c, rfl⟩ : ∃ a n c, v = .slice a n c := by
    rcases open_ints Tryd.underlying22 Tryd.underlying5 (by kernel_rfl) hf with ⟨hcs, _⟩ | ⟨ad, len', cap', zs, hcs, _⟩
    · simp at hcs; exact ⟨_, _, _, hcs⟩
    · simp at hcs; exact ⟨_, _, _, hcs⟩
  obtain ⟨l, hs, hn⟩ := open_bs (a := a) (n := n) (c := c) hf
  refine ⟨a, n, c, l, rfl, hs, ?_⟩
  rcases hn with rfl | ⟨elems, spare, e, h⟩
  · omega
  · rw [e]; exact h

theorem sized_parts {H : Type} {P : Program} {ts : List TypeId} {ds : List (DataW H)} (h : (DataW.weightsEach P ts ds).all (· ≤ reachBytes) = true) {j : Nat} {t : TypeId} {fs : Array Field} {parts : List (DataW H)} (ht : ts[j]? = some t) (hd : ds[j]? = some (.agg parts)) (hu : P.underlying t = some (.struct fs)) :
    (DataW.weightsEach P (fs.toList.map (·.type)) parts).all (· ≤ reachBytes) = true := by
  rw [List.all_eq_true]
  intro n hn
  exact List.all_eq_true.1 h n (DataW.weights_mem_each ht hd n (by simp only [DataW.weights, hu]; exact hn))
theorem sized_len {H : Type} {ts : List TypeId} {ds : List (DataW H)} (h : (DataW.weightsEach Tryd.prog ts ds).all (· ≤ reachBytes) = true) {j : Nat} {d : DataW H} (ht : ts[j]? = some 22) (hd : ds[j]? = some d) : readLen d ≤ 140737488351232 := by
  cases d with
  | slice elems spare =>
    have := sized_slice h ht hd Tryd.underlying22
    rw [bytes5] at this
    unfold reachBytes at this
    simp only [readLen]
    omega
  | _ => simp [readLen]
theorem sized_str {H : Type} {ts : List TypeId} {ds : List (DataW H)} (h : (DataW.weightsEach Tryd.prog ts ds).all (· ≤ reachBytes) = true) {j t : Nat} {s : ByteArray} (ht : ts[j]? = some t) (hd : ds[j]? = some (.lit (.string s.data.toList))) : s.size ≤ 140737488351232 := by
  have := sized_string h ht hd
  unfold reachBytes at this
  have e : s.data.toList.length = s.size := by rw [Array.length_toList]; rfl
  omega

theorem bulk_one {H : Type} (d : DataW H) : 1 ≤ Rows.uptoBulk d := by
  cases d with
  | lit l => cases l <;> simp [Rows.uptoBulk]
  | _ => simp [Rows.uptoBulk]
theorem bulk_len {H : Type} (l : List (DataW H)) : l.length ≤ Rows.uptoBulkAll l := by
  induction l with
  | nil => simp [Rows.uptoBulkAll]
  | cons d r ih =>
    have := bulk_one d
    simp only [Rows.uptoBulkAll, List.length_cons]
    omega
theorem bulk_in {H : Type} : ∀ (l : List (DataW H)) (j : Nat) (d : DataW H), l[j]? = some d → Rows.uptoBulk d ≤ Rows.uptoBulkAll l
  | [], _, _, h => by simp at h
  | x :: r, 0, d, h => by
    simp only [List.getElem?_cons_zero, Option.some.injEq] at h
    subst h
    simp only [Rows.uptoBulkAll]; omega
  | x :: r, j + 1, d, h => by
    simp only [List.getElem?_cons_succ] at h
    have := bulk_in r j d h
    simp only [Rows.uptoBulkAll]; omega
theorem bulk_read {H : Type} (d : DataW H) : readLen d ≤ Rows.uptoBulk d := by
  cases d with
  | slice elems spare =>
    have := bulk_len elems
    have := bulk_len spare
    simp only [readLen, Rows.uptoBulk]
    omega
  | _ => simp [readLen]
theorem small_all {H : Type} {ds : List (DataW H)} {spec : ChangeSpec} (h : ∀ k, (Rows.OpenSpec.upto spec).cond = some k → k H ds = true) : Rows.uptoBulkAll ds ≤ 1048576 := by
  have := h _ rfl
  simpa [Rows.uptoSmall] using this
end Go.Proofs.YteceagldjnfeeaaDoor
