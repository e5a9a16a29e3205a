/- The walk of merkle.Absent. -/
import Derived.Test.YteceagldjnfeeaaDoorMk9
namespace Go.Proofs.YteceagldjnfeeaaDoor
open Go.RowKit
set_option linter.unusedVariables false
set_option linter.unusedSimpArgs false

theorem holdsV_bounds {root : List UInt8} {n : Int} {l : LeafV} (h : holdsV root n l = true) : 1 ≤ n ∧ n ≤ 65536 ∧ 0 ≤ l.i ∧ l.i < n := by
  unfold holdsV at h
  simp only [Bool.and_eq_true, decide_eq_true_eq] at h
  exact h.1.1.1
theorem absentV_key {root key : List UInt8} {p : ProofV} (h : goodK key = false) : absentV root key p = false := by
  unfold absentV; rw [h]; rfl
theorem absentV_leaf {root key : List UInt8} {p : ProofV} (j : Nat) (hj : j < p.leaves.length) (h : holdsV root p.n p.leaves[j] = false) : absentV root key p = false := by
  have : p.leaves.all (holdsV root p.n) = false := by
    rw [List.all_eq_false]
    exact ⟨_, List.getElem_mem hj, by rw [h]; simp⟩
  unfold absentV
  rw [this, Bool.and_false, Bool.false_and]
theorem absentV_many {root key : List UInt8} {p : ProofV} (h : 3 ≤ p.leaves.length) : absentV root key p = false := by
  obtain ⟨n, ls⟩ := p
  match ls, h with
  | a :: b :: c :: r, _ => simp [absentV]
theorem absentV_0 {root key : List UInt8} {n : Int} (h : goodK key = true) : absentV root key ⟨n, []⟩ = ((n == 0) && decide (topH 0 [] = root)) := by
  unfold absentV; rw [h]; simp [Bool.beq_eq_decide_eq]
theorem absentV_1 {root key : List UInt8} {n : Int} {l : LeafV} (h : goodK key = true) (h1 : holdsV root n l = true) : absentV root key ⟨n, [l]⟩ = ((l.i == 0) && Op.bytesLess key l.key || (l.i == n - 1) && Op.bytesLess l.key key) := by
  unfold absentV; rw [h]; simp [h1]; rfl
theorem absentV_2 {root key : List UInt8} {n : Int} {l m : LeafV} (h : goodK key = true) (h1 : holdsV root n l = true) (h2 : holdsV root n m = true) : absentV root key ⟨n, [l, m]⟩ = ((m.i == l.i + 1) && Op.bytesLess l.key key && Op.bytesLess key m.key) := by
  unfold absentV; rw [h]; simp [h1, h2]; rfl
theorem all_take {f : LeafV → Bool} {ls : List LeafV} {j : Nat} (hj : j < ls.length) (h : (ls.take j).all f = true) (h2 : f ls[j] = true) : (ls.take (j + 1)).all f = true := by
  rw [List.take_succ_eq_append_getElem hj, List.all_append, h]; simp [h2]

set_option maxRecDepth 100000 in
set_option maxHeartbeats 16000000 in
theorem absent_any {D : Nat} (ar al : Option Addr) (nr cr nl cl : Nat) (root key : List UInt8) (p : ProofV) (w : World)
    (hr : Pt w D (.slice ar nr cr) root) (hl : Lvs w D al nl cl p.leaves) (hK : KAt w) :
    Calls Tryd.prog 58 #[.slice ar nr cr, str key, .agg #[.int .i64 p.n, .slice al nl cl]] w fun e w' => e = .returned (.bool (absentV root key p)) ∧ Below w.heap.size w w' := by
  obtain ⟨n, ls⟩ := p
  simp only at hl ⊢
  have HB0 := row_below w (.cells #[.int .i64 n, .slice al nl cl] 66)
  have g0 : (w.alloc (.cells #[.int .i64 n, .slice al nl cl] 66)).heap[w.heap.size]? = some (.cells #[.int .i64 n, .slice al nl cl] 66 (0, 0)) := heap_alloc_new w _
  have c0 : (w.alloc (.cells #[.int .i64 n, .slice al nl cl] 66)).cell? ⟨w.heap.size, 0, none⟩ = some (.int .i64 n) := by rw [cell_of_row _ _ _ _ _ _ g0]; rfl
  have c1 : (w.alloc (.cells #[.int .i64 n, .slice al nl cl] 66)).cell? ⟨w.heap.size, 1, none⟩ = some (.slice al nl cl) := by rw [cell_of_row _ _ _ _ _ _ g0]; rfl
  have hn63 : nl ≤ 9223372036854775807 := by have := hl.cap; have := hl.big; unfold maxLen at this; omega
  have HLL := Lib.hid hl.len
  have HR := Lib.hid (hr.below HB0.out)
  have HL := Lib.hid (hl.below HB0.out)
  have HK := Lib.hid (hK.below hK.pos HB0.out)
  have C0 := Lib.hid c0
  have C1 := Lib.hid c1
  clear hr hl hK g0
  by_cases hg : goodK key = true
  · have HG := Lib.hid hg
    clear hg
    go_enter Tryd.func58, Tryd.ntmps58
    go_wp2_with (fail)
    refine (good_any key _).mono ?_
    rintro e w' ⟨rfl, rfl⟩
    rw [HG.out]
    go_wp2_with (fail)
    generalize w.alloc (.cells #[.int .i64 n, .slice al nl cl] 66) = w0 at HB0 c0 c1 C0 C1 HR HL HK ⊢
    clear c0 c1
    go_loopw [16] (fun i wr => ∃ j : Nat, j ≤ nl ∧ i = .int .i64 j ∧ Hid (Below w0.heap.size w0 wr) ∧ Hid ((ls.take j).all (holdsV root n) = true)) (fun i _ => nl - (intOf i).toNat)
    case atStart => exact ⟨0, by omega, rfl, Below.refl _ _, rfl⟩
    case round =>
      obtain ⟨j, hj, rfl, HB, HA⟩ := hrel
      have c0 := below_cell HB.out C0.out
      have c1 := below_cell HB.out C1.out
      by_cases hlt : j < nl
      · have hjl : j < ls.length := by rw [HLL.out]; exact hlt
        obtain ⟨b, o, av2, nv2, cv2, ap, np, cp, hal, g1, g2, g3, g4, hv2, hp2⟩ := (HL.out.below HB.out).cells j hjl
        subst hal
        have j0 : (0 : Int) ≤ (j : Int) := by omega
        have j1 : (j : Int) < (nl : Int) := by omega
        have HAT := Lib.hid (@all_take (holdsV root n) ls j hjl HA.out)
        have HNO := Lib.hid (@absentV_leaf root key ⟨n, ls⟩ j hjl)
        simp only at HNO
        generalize ls[j] = l at g1 g2 g3 g4 hv2 hp2 HAT HNO
        obtain ⟨li, lk, lv, lp⟩ := l
        simp only at g1 g2 g3 g4 hv2 hp2
        have HB01 := row_below wr (.cells #[.int .i64 li, str lk, .slice av2 nv2 cv2, .slice ap np cp] 79)
        have HB1 := Lib.hid (below_then HB.out HB.out.size HB01.out)
        have HV2 := Lib.hid (hv2.below HB01.out)
        have HP2 := Lib.hid (hp2.below HB01.out)
        have c0a := below_cell HB01.out c0
        clear hjl hv2 hp2
        go_wp2_with (fail)
        clear c0a
        refine (holds_any (D := D) ar nr cr root n _ ⟨li, lk, lv, lp⟩ _ (HR.out.below HB1.out) ⟨av2, nv2, cv2, ap, np, cp, rfl, HV2.out, HP2.out⟩ (HK.out.below HK.out.pos HB1.out)).mono ?_
        rintro e w9 ⟨rfl, hb9⟩
        have HB9 := Lib.hid (below_then HB1.out HB1.out.size hb9)
        clear hb9 g1 g2 g3 g4
        by_cases hh : holdsV root n ⟨li, lk, lv, lp⟩ = true
        · have HA2 := Lib.hid (HAT.out hh)
          rw [hh]
          clear hh HAT HNO
          go_wp2_with (fail)
          exact ⟨⟨j + 1, by omega, by go_num, HB9, HA2⟩, by simp [intOf]; omega⟩
        · have hh1 : holdsV root n ⟨li, lk, lv, lp⟩ = false := by simpa using hh
          have hr : Hid (absentV root key ⟨n, ls⟩ = false) := HNO.out hh1
          rw [hh1]
          clear hh hh1 HAT HNO
          go_wp2_with (fail)
          go_ret
          exact ⟨by rw [hr.out]; rfl, below_then HB0.out HB0.out.size HB9.out⟩
      · obtain rfl : j = nl := by omega
        have i5 : ¬ ((j : Int) < (j : Int)) := by omega
        have HBW := Lib.hid (below_then HB0.out HB0.out.size HB.out)
        have HAL : Hid (∀ l ∈ ls, holdsV root n l = true) := by
          have h := HA.out
          rw [List.take_of_length_le (by rw [HLL.out]; omega)] at h
          exact List.all_eq_true.1 h
        have HLW := Lib.hid (HL.out.below HB.out)
        by_cases h0 : j = 0
        · subst h0
          obtain rfl : ls = [] := List.eq_nil_of_length_eq_zero HLL.out
          have hr : Hid (absentV root key ⟨n, []⟩ = ((n == 0) && decide (topH 0 [] = root))) := absentV_0 HG.out
          rcases hz : (n == 0) with _ | _
          · have hr2 : Hid (absentV root key ⟨n, []⟩ = false) := by show _ = _; rw [hr.out, hz]; rfl
            clear hr
            go_wp2_with (fail)
            go_ret
            exact ⟨by rw [hr2.out]; rfl, HBW.out⟩
          · have hr2 : Hid (absentV root key ⟨n, []⟩ = decide (topH 0 [] = root)) := by show _ = _; rw [hr.out, hz]; rfl
            clear hr
            go_wp2_with (fail)
            refine (top_any D (D := 0) 0 [] none 0 0 wr (by omega) (Pt.zero wr 0) (HK.out.below HK.out.pos HB.out)).mono ?_
            rintro e w7 ⟨a7, n7, c7, rfl, hb7, hp7⟩
            have HB7 := Lib.hid (below_then HB.out HB.out.size hb7)
            have HP9 := Lib.hid hp7
            clear hb7 hp7
            go_wp2_with (fail)
            refine (equal_any a7 ar n7 c7 nr cr _ root w7 HP9.out.bs (HR.out.below HB7.out).bs).mono ?_
            rintro e w8 ⟨rfl, rfl⟩
            rw [← hr2.out]
            go_wp2_with (fail)
            go_ret
            exact ⟨rfl, below_then HB0.out HB0.out.size HB7.out⟩
        · have n0 : ((j : Int) == 0) = false := by rw [beq_eq_false_iff_ne]; omega
          by_cases h1 : j = 1
          · subst h1
            obtain ⟨l, rfl⟩ : ∃ l, ls = [l] := List.length_eq_one_iff.1 HLL.out
            have hho := HAL.out l (by simp)
            have hr : Hid _ := absentV_1 HG.out hho
            obtain ⟨b1, b2, b3, b4⟩ := holdsV_bounds hho
            obtain ⟨b, o, av2, nv2, cv2, ap, np, cp, hal, g1, g2, g3, g4, _, _⟩ := HLW.out.cells 0 (by simp)
            subst hal
            simp only [Nat.zero_mul, Nat.add_zero, List.getElem_cons_zero] at g1 g2 g3 g4
            obtain ⟨li, lk, lv, lp⟩ := l
            simp only at g1 g2 g3 g4 b3 b4 hr
            have wn : IntKind.i64.wrap (n - 1) = n - 1 := IntWalk.i64_in _ (by omega)
            have HWN := Lib.hid wn
            clear hho wn g3 g4 b1 b2 b3 b4 HAL HA
            rcases hx : (li == 0) with _ | _ <;> rcases hy : Op.bytesLess key lk with _ | _ <;> rcases hz : (li == n - 1) with _ | _ <;> rcases hu : Op.bytesLess lk key with _ | _
            all_goals (
              have hr2 := Lib.hid hr.out
              rw [hx, hy, hz, hu] at hr2
              have wn := HWN.out
              go_wp2_with (fail)
              go_quiet (fail)
              clear wn
              have HB2 := Lib.hid (below_then HBW.out HBW.out.size (drewN_below wr nq))
              go_wp2_with (fail)
              go_ret
              exact ⟨by rw [hr2.out]; rfl, HB2.out⟩)
          · have n1 : ((j : Int) == 1) = false := by rw [beq_eq_false_iff_ne]; omega
            by_cases h2 : j = 2
            · subst h2
              obtain ⟨l, m, rfl⟩ : ∃ l m, ls = [l, m] := by
                have h := HLL.out
                match ls, h with
                | [l, m], _ => exact ⟨l, m, rfl⟩
              have hho := HAL.out l (by simp)
              have hr : Hid _ := absentV_2 HG.out hho (HAL.out m (by simp))
              obtain ⟨b1, b2, b3, b4⟩ := holdsV_bounds hho
              obtain ⟨b, o, av2, nv2, cv2, ap, np, cp, hal, g1, g2, g3, g4, _, _⟩ := HLW.out.cells 0 (by simp)
              obtain ⟨b', o', av3, nv3, cv3, ap3, np3, cp3, hal3, f1, f2, f3, f4, _, _⟩ := HLW.out.cells 1 (by simp)
              subst hal
              cases hal3
              simp only [Nat.zero_mul, Nat.add_zero, List.getElem_cons_zero] at g1 g2 g3 g4
              simp only [Nat.one_mul, List.getElem_cons_succ, List.getElem_cons_zero] at f1 f2 f3 f4
              obtain ⟨li, lk, lv, lp⟩ := l
              obtain ⟨mi, mk, mv, mp⟩ := m
              simp only at g1 g2 f1 f2 b3 b4 hr
              have wn : IntKind.i64.wrap (li + 1) = li + 1 := IntWalk.i64_in _ (by omega)
              have HWN := Lib.hid wn
              clear hho wn g3 g4 f3 f4 b1 b2 b3 b4 HAL HA
              rcases hx : (mi == li + 1) with _ | _ <;> rcases hy : Op.bytesLess lk key with _ | _ <;> rcases hz : Op.bytesLess key mk with _ | _
              all_goals (
                have hr2 := Lib.hid hr.out
                rw [hx, hy, hz] at hr2
                have wn := HWN.out
                go_wp2_with (fail)
                go_quiet (fail)
                clear wn
                have HB2 := Lib.hid (below_then HBW.out HBW.out.size (drewN_below wr nq))
                go_wp2_with (fail)
                go_ret
                exact ⟨by rw [hr2.out]; rfl, HB2.out⟩)
            · have n2 : ((j : Int) == 2) = false := by rw [beq_eq_false_iff_ne]; omega
              have hr : Hid (absentV root key ⟨n, ls⟩ = false) := absentV_many (by simp only; rw [HLL.out]; omega)
              go_wp2_with (fail)
              go_ret
              exact ⟨by rw [hr.out]; rfl, HBW.out⟩
  · have hg1 : goodK key = false := by simpa using hg
    have hr : Hid (absentV root key ⟨n, ls⟩ = false) := absentV_key hg1
    have HG := Lib.hid hg1
    clear hg hg1
    go_enter Tryd.func58, Tryd.ntmps58
    go_wp2_with (fail)
    refine (good_any key _).mono ?_
    rintro e w' ⟨rfl, rfl⟩
    rw [HG.out]
    go_wp2_with (fail)
    go_ret
    exact ⟨by rw [hr.out]; rfl, HB0.out⟩
end Go.Proofs.YteceagldjnfeeaaDoor
