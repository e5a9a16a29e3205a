/- Bytes as texts, pieces of slices, bytes.Equal. -/
import Derived.Test.YteceagldjnfeeaaDoorPts
import Derived.WalkLawsBesides
namespace Go.Proofs.YteceagldjnfeeaaDoor
open Go.RowKit
set_option linter.unusedVariables false
set_option linter.unusedSimpArgs false

theorem add_plain (b o j : Nat) : (⟨b, o, none⟩ : Addr).add j = ⟨b, o + j, none⟩ := by unfold Addr.add; split <;> simp_all
theorem conv_str {w : World} {a : Option Addr} {n c : Nat} {l : List UInt8} (h : Bs w a n c l) : (convert 22 9 (.slice a n c)).run Tryd.prog w = .ok (.string ⟨l.toArray⟩) w := by
  have hl := h.blen
  cases a with
  | none =>
    have hz : l = [] := by
      cases l with
      | nil => rfl
      | cons x r => obtain ⟨b, o, e, _⟩ := h.bat (j := 0) (by rw [← hl]; simp); cases e
    subst hz
    exact run_convert_bytes_nil w 22 5 Tryd.underlying22 Tryd.underlying5 n c 9 Tryd.underlying9
  | some ad =>
    subst hl
    refine run_convert_bytes_back w 22 9 5 ad c l Tryd.underlying22 Tryd.underlying5 Tryd.underlying9 fun j hj => ?_
    obtain ⟨b, o, e, hc⟩ := h.bat hj
    cases e
    rw [add_plain]
    exact hc j hj
theorem str_beq (xs ys : List UInt8) : (xs == ys) = decide (xs = ys) := by rw [Bool.eq_iff_iff, beq_iff_eq, decide_eq_true_iff]

set_option maxRecDepth 100000 in
theorem equal_any (a1 a2 : Option Addr) (n1 c1 n2 c2 : Nat) (xs ys : List UInt8) (w : World) (h1 : Bs w a1 n1 c1 xs) (h2 : Bs w a2 n2 c2 ys) :
    Calls Tryd.prog 82 #[.slice a1 n1 c1, .slice a2 n2 c2] w fun e w' => e = .returned (.bool (decide (xs = ys))) ∧ w = w' := by
  have k1 := conv_str h1
  have k2 := conv_str h2
  have HE := Lib.hid (str_beq xs ys)
  clear h1 h2
  go_enter Tryd.func82, Tryd.ntmps82
  go_wp2
  go_ret
  exact ⟨by rw [← HE.out]; rfl, rfl⟩

theorem Sl.piece {w : World} {b o n c : Nat} {vs : List Value} (h : Sl w (some ⟨b, o, none⟩) n c vs) (i k : Nat) (hk : i + k ≤ n) : Sl w (some ⟨b, o + i, none⟩) k (c - i) ((vs.drop i).take k) := by
  have hc := h.cap
  have hb := h.big
  refine ⟨by rw [List.length_take, List.length_drop, h.len]; omega, by omega, by omega, fun j u hj => ⟨b, o + i, rfl, ?_⟩⟩
  rw [List.getElem?_take] at hj
  split at hj
  · rw [List.getElem?_drop] at hj
    obtain ⟨b', o', e, hcell⟩ := h.cells _ u hj
    cases e
    rw [show o + i + j = o + (i + j) by omega]
    exact hcell
  · cases hj
theorem run_sl22 (w : World) (b o n c : Nat) (l h : Int) (lo k : Nat) (hl : l = (lo : Int)) (hh : h = ((lo + k : Nat) : Int)) (hk : 0 < k) (hc : lo + k ≤ c) :
    (Instr.slice 22 (.slice (some ⟨b, o, none⟩) n c) (some (.int .i64 l)) (some (.int .i64 h)) none).run Tryd.prog w = .ok (.slice (some ⟨b, o + lo, none⟩) k (c - lo)) w := by
  have hs : (sizeOf (Tryd.prog.elem 22)).run Tryd.prog w = .ok 1 w := by kernel_rfl
  have e := run_slice_lh (P := Tryd.prog) (w := w) 22 (some ⟨b, o, none⟩) n c (by kernel_rfl) .i64 .i64 l h (by omega) (by omega) (by omega)
  rw [e, hs]
  have e1 : l.toNat = lo := by omega
  have e2 : h.toNat = lo + k := by omega
  simp only [Result.andThen_ok, sliced, e1, e2, Nat.mul_one]
  rw [if_neg (by omega)]
  simp only [Option.map_some, add_plain, Nat.add_sub_cancel_left]
end Go.Proofs.YteceagldjnfeeaaDoor
