/- The walks of the packages name and isthmusref05: identifiers. -/
import Derived.Test.YteceagldjnfeeaaShelf
import Derived.Test.YteceagldjnfeeaaWords
import Derived.Test.YteceagldjnfeeaaNmMath
namespace Go.Proofs.Yteceagldjnfeeaa
open Go.RowKit
set_option linter.unusedVariables false
set_option linter.unusedSimpArgs false

/-- A text's bytes. -/
abbrev tx (s : ByteArray) : List UInt8 := s.data.toList
theorem tx_len (s : ByteArray) : (tx s).length = s.size := by rw [Array.length_toList]; rfl
theorem tx_at (s : ByteArray) (k : Nat) (h : k < s.size) : (tx s).getD k 0 = s[k] := by
  rw [List.getD_eq_getElem?_getD, List.getElem?_eq_getElem (by rw [tx_len]; exact h)]; rfl
theorem ub_is (x : UInt8) (n : Nat) : (ub x == (n : Int)) = decide (x.toNat = n) := by
  rw [Bool.eq_iff_iff, beq_iff_eq, decide_eq_true_iff]; unfold ub; omega
theorem bytesWorld_below (w : World) (s : ByteArray) : Below w.heap.size w (Lib.bytesWorld w 5 s) :=
  ⟨rfl, rfl, rfl, by rw [Lib.bytesWorld_size]; omega, fun i hi => Lib.bytesWorld_at_old w 5 s i hi⟩

set_option maxRecDepth 100000 in
set_option maxHeartbeats 1000000 in
theorem ident_any (s : ByteArray) (w : World) (hs : s.size ≤ 140737488355328) :
    Calls Try.prog 13 #[.string s] w fun e w' => e = .returned (.bool (identB (tx s))) ∧ Below w.heap.size w w' := by
  have hcv := fun wx => Lib.run_convert_string_bytes (P := Try.prog) wx 9 42 5 s Try.underlying9 Try.underlying42 Try.underlying5
  have hb := Lib.hid (bytesWorld_below w s)
  have hc : Hid (∀ j, j < s.size → (Lib.bytesWorld w 5 s).cell? ⟨w.heap.size, j, none⟩ = some (.int .u8 (ub ((tx s).getD j 0)))) := fun j hj => by
    rw [Lib.bytesWorld_cell w 5 s j hj]; rfl
  have hl := tx_len s
  have HL := Lib.hid hl
  clear hl
  go_enter Try.func13, Try.ntmps13
  go_wp2_with (fail)
  clear hcv
  generalize Lib.bytesWorld w 5 s = w1 at hb hc ⊢
  generalize grownCap w s.size 0 5 = cap
  go_loop [8] (fun i => ∃ k : Nat, k ≤ s.size ∧ i = .int .i64 k ∧ Hid (signsTo (tx s) k = true)) (fun i => s.size - (intOf i).toNat)
  case atStart => exact ⟨0, by omega, rfl, rfl⟩
  case round =>
    obtain ⟨k, hk, rfl, hp⟩ := hrel
    by_cases hlt : k < s.size
    · have g1 := hc.out k hlt
      have hsu := Lib.hid (signsTo_succ (tx s) k)
      have hfa : Hid (signB k ((tx s).getD k 0) = false → identB (tx s) = false) := fun h => by
        unfold identB
        rw [signsTo_false (by rw [HL.out]; exact hlt) h, Bool.and_false]
      generalize (tx s).getD k 0 = x at g1 hsu hfa
      have hx : ub x ≤ 255 := ub_le x
      have hx0 : 0 ≤ ub x := ub_nonneg x
      have hux : Hid (ub x = (x.toNat : Int)) := rfl
      have i0 : (0 : Int) ≤ (k : Int) := by omega
      have i1 : (k : Int) < (s.size : Int) := by omega
      have hq1 : (ub x == 45) = decide (x.toNat = 45) := ub_is x 45
      have hq2 : (ub x == 46) = decide (x.toNat = 46) := ub_is x 46
      go_wp2
      all_goals first
        | (go_ret
           refine ⟨?_, hb.out⟩
           have hz : signB k x = false := by
             have h1 := hux.out
             simp [signB, smallB, digitB]
             omega
           rw [hfa.out hz]; rfl)
        | (go_round
           case rel =>
             have hz : signB k x = true := by
               have h1 := hux.out
               simp [signB, smallB, digitB]
               omega
             exact ⟨k + 1, by omega, by go_num, (by show _ = _; rw [hsu.out, hp.out, hz]; rfl)⟩
           case measure => simp [intOf]; omega)
    · obtain rfl : k = s.size := by omega
      have hid : Hid (identB (tx s) = (decide (tx s ≠ []) && decide ((tx s).length ≤ 32))) := by
        show _ = _
        unfold identB
        rw [HL.out, hp.out, Bool.and_true]
      have i2 : ¬ ((s.size : Int) < (s.size : Int)) := by omega
      have hne : (tx s ≠ []) ↔ ¬ (s.size = 0) := by
        rw [← HL.out, List.length_eq_zero_iff]
      have htl : s.toList = tx s := Lib.toList_data s
      have hle : decide ((s.size : Int) ≤ 32) = decide ((tx s).length ≤ 32) := by
        rw [HL.out]; congr 1; rw [eq_iff_iff]; omega
      have HLE := Lib.hid hle
      have HTL := Lib.hid htl
      clear hle htl hne
      go_wp2
      · rename_i h1 _
        rw [HTL.out] at h1
        go_ret
        exact ⟨by rw [hid.out, h1]; rfl, hb.out⟩
      · rename_i h1 _
        have h2 : tx s ≠ [] := by rw [← HTL.out]; exact h1
        go_ret
        refine ⟨?_, hb.out⟩
        rw [hid.out, decide_eq_true h2, ← HLE.out]
        have h3 : s.toList.isEmpty = false := by
          cases h4 : s.toList with
          | nil => exact absurd h4 h1
          | cons a b => rfl
        show Ending.returned (.bool (!s.toList.isEmpty && decide ((s.size : Int) ≤ 32))) = _
        rw [h3]; rfl
end Go.Proofs.Yteceagldjnfeeaa
