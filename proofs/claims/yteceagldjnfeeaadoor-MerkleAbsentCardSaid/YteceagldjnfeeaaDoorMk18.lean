/- The walk of isthmusref08.Absent. -/
import Derived.Test.YteceagldjnfeeaaDoorMk16
import Derived.Test.YteceagldjnfeeaaDoorMk17
namespace Go.Proofs.YteceagldjnfeeaaDoor
open Go.RowKit
set_option linter.unusedVariables false
set_option linter.unusedSimpArgs false

set_option maxRecDepth 100000 in
set_option maxHeartbeats 32000000 in
theorem rabsent_any {D : Nat} (ar al : Option Addr) (nr cr nl cl : Nat) (root key : List UInt8) (p : ProofV) (w : World)
    (hr : Pt w D (.slice ar nr cr) root) (hl : Lvs w D al nl cl p.leaves) (hK : KAt1 w) :
    Calls Tryd.prog 59 #[.slice ar nr cr, str key, .agg #[.int .i64 p.n, .slice al nl cl]] w fun e w' => e = .returned (.bool (absentV root key p)) ∧ Below w.heap.size w w' := by
  obtain ⟨n, ls⟩ := p
  simp only at hl ⊢
  have HB0 := row_below w (.cells #[.int .i64 n, .slice al nl cl] 66)
  have g0 : (w.alloc (.cells #[.int .i64 n, .slice al nl cl] 66)).heap[w.heap.size]? = some (.cells #[.int .i64 n, .slice al nl cl] 66 (0, 0)) := heap_alloc_new w _
  have c0 : (w.alloc (.cells #[.int .i64 n, .slice al nl cl] 66)).cell? ⟨w.heap.size, 0, none⟩ = some (.int .i64 n) := by rw [cell_of_row _ _ _ _ _ _ g0]; rfl
  have c1 : (w.alloc (.cells #[.int .i64 n, .slice al nl cl] 66)).cell? ⟨w.heap.size, 1, none⟩ = some (.slice al nl cl) := by rw [cell_of_row _ _ _ _ _ _ g0]; rfl
  have hn63 : nl ≤ 9223372036854775807 := by have := hl.cap; have := hl.big; unfold maxLen at this; omega
  have HLL := Lib.hid hl.len
  have HR0 := Lib.hid hr
  have HL0 := Lib.hid hl
  have HK0 := Lib.hid hK
  have HR := Lib.hid (hr.below HB0.out)
  have HL := Lib.hid (hl.below HB0.out)
  have HK := Lib.hid (hK.below hK.pos HB0.out)
  clear hr hl hK g0
  by_cases hg : goodK key = true
  · have HG := Lib.hid hg
    clear hg
    by_cases h0 : nl = 0
    · subst h0
      obtain rfl : ls = [] := List.eq_nil_of_length_eq_zero HLL.out
      have hr : Hid (absentV root key ⟨n, []⟩ = ((n == 0) && decide (topH 0 [] = root))) := absentV_0 HG.out
      rcases hz : (n == 0) with _ | _
      · have hr2 : Hid (absentV root key ⟨n, []⟩ = false) := by show _ = _; rw [hr.out, hz]; rfl
        clear hr
        go_enter Tryd.func59, Tryd.ntmps59
        go_wp2_with (fail)
        refine (rkey_any key _).mono ?_
        rintro e w' ⟨rfl, rfl⟩
        rw [HG.out]
        go_wp2_with (fail)
        go_ret
        exact ⟨by rw [hr2.out]; rfl, HB0.out⟩
      · have hr2 : Hid (absentV root key ⟨n, []⟩ = decide (topH 0 [] = root)) := by show _ = _; rw [hr.out, hz]; rfl
        clear hr
        go_enter Tryd.func59, Tryd.ntmps59
        go_wp2_with (fail)
        refine (rkey_any key _).mono ?_
        rintro e w' ⟨rfl, rfl⟩
        rw [HG.out]
        go_wp2_with (fail)
        generalize w.alloc (.cells #[.int .i64 n, .slice al 0 cl] 66) = w0 at HB0 c0 c1 HR HL HK ⊢
        refine (rmnumber_any D 0 w0 (by omega)).mono ?_
        rintro e w2 ⟨a2, n2, c2, rfl, hb2, hp2⟩
        have HB2 := Lib.hid hb2
        have HP2 := Lib.hid hp2
        clear hb2 hp2
        go_wp2_with (fail)
        refine (rtagged_row (D := D) D wRoot _ 1 [be8 0] w2 (by decide) rfl (by omega) (.cons HP2.out .nil) (HK.out.below HK.out.pos HB2.out)).mono ?_
        rintro e w3 ⟨a3, n3, c3, rfl, hb3, hp3⟩
        have HB3 := Lib.hid (below_then HB2.out HB2.out.size hb3)
        have HP3 : Hid (Pt w3 D (.slice a3 n3 c3) (topH 0 [])) := hp3
        clear hb3 hp3
        go_wp2_with (fail)
        refine (same_any a3 ar n3 c3 nr cr _ root w3 HP3.out.bs (HR.out.below HB3.out).bs).mono ?_
        rintro e w8 ⟨rfl, rfl⟩
        rw [← hr2.out]
        go_wp2_with (fail)
        go_ret
        exact ⟨rfl, below_then HB0.out HB0.out.size HB3.out⟩
    · have n0 : ((nl : Int) == 0) = false := by rw [beq_eq_false_iff_ne]; omega
      by_cases h1 : nl = 1
      · subst h1
        obtain ⟨l, rfl⟩ : ∃ l, ls = [l] := List.length_eq_one_iff.1 HLL.out
        exact rabsent_one ar al nr cr cl root key n l w HR0.out HL0.out HK0.out HG.out
      · have n1 : ((nl : Int) == 1) = false := by rw [beq_eq_false_iff_ne]; omega
        by_cases h2 : nl = 2
        · subst h2
          obtain ⟨l, m, rfl⟩ : ∃ l m, ls = [l, m] := by
            have h := HLL.out
            match ls, h with
            | [l, m], _ => exact ⟨l, m, rfl⟩
          exact rabsent_two ar al nr cr cl root key n l m w HR0.out HL0.out HK0.out HG.out
        · have n2 : ((nl : Int) == 2) = false := by rw [beq_eq_false_iff_ne]; omega
          have hr : Hid (absentV root key ⟨n, ls⟩ = false) := absentV_many (by simp only; rw [HLL.out]; omega)
          clear HR0 HL0 HK0
          go_enter Tryd.func59, Tryd.ntmps59
          go_wp2_with (fail)
          refine (rkey_any key _).mono ?_
          rintro e w' ⟨rfl, rfl⟩
          rw [HG.out]
          go_wp2_with (fail)
          go_ret
          exact ⟨by rw [hr.out]; rfl, HB0.out⟩
  · have hg1 : goodK key = false := by simpa using hg
    have hr : Hid (absentV root key ⟨n, ls⟩ = false) := absentV_key hg1
    have HG := Lib.hid hg1
    clear hg hg1
    go_enter Tryd.func59, Tryd.ntmps59
    go_wp2_with (fail)
    refine (rkey_any key _).mono ?_
    rintro e w' ⟨rfl, rfl⟩
    rw [HG.out]
    go_wp2_with (fail)
    go_ret
    exact ⟨by rw [hr.out]; rfl, HB0.out⟩
end Go.Proofs.YteceagldjnfeeaaDoor
