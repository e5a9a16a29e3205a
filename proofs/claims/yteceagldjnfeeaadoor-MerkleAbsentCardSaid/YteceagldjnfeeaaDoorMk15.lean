/- The walk of isthmusref08.Verify. -/
import Derived.Test.YteceagldjnfeeaaDoorMk9
import Derived.Test.YteceagldjnfeeaaDoorMk14
namespace Go.Proofs.YteceagldjnfeeaaDoor
open Go.RowKit
set_option linter.unusedVariables false
set_option linter.unusedSimpArgs false

theorem verifyV_many {root key value : List UInt8} {n : Int} {ls : List LeafV} (h : ls.length ≠ 1) : verifyV root key value ⟨n, ls⟩ = false := by
  unfold verifyV
  split
  · next l hx => simp only at hx; rw [hx] at h; simp at h
  · rfl

set_option maxRecDepth 100000 in
set_option maxHeartbeats 16000000 in
theorem rverify_any {D : Nat} (ar av al : Option Addr) (nr cr nv cv nl cl : Nat) (root key value : List UInt8) (p : ProofV) (w : World)
    (hr : Pt w D (.slice ar nr cr) root) (hv : Pt w D (.slice av nv cv) value) (hl : Lvs w D al nl cl p.leaves) (hK : KAt1 w) :
    Calls Tryd.prog 57 #[.slice ar nr cr, str key, .slice av nv cv, .agg #[.int .i64 p.n, .slice al nl cl]] w fun e w' => e = .returned (.bool (verifyV root key value p)) ∧ Below w.heap.size w w' := by
  obtain ⟨n, ls⟩ := p
  simp only at hl ⊢
  have HB0 := row_below w (.cells #[.int .i64 n, .slice al nl cl] 66)
  have g0 : (w.alloc (.cells #[.int .i64 n, .slice al nl cl] 66)).heap[w.heap.size]? = some (.cells #[.int .i64 n, .slice al nl cl] 66 (0, 0)) := heap_alloc_new w _
  have c0 : (w.alloc (.cells #[.int .i64 n, .slice al nl cl] 66)).cell? ⟨w.heap.size, 0, none⟩ = some (.int .i64 n) := by rw [cell_of_row _ _ _ _ _ _ g0]; rfl
  have c1 : (w.alloc (.cells #[.int .i64 n, .slice al nl cl] 66)).cell? ⟨w.heap.size, 1, none⟩ = some (.slice al nl cl) := by rw [cell_of_row _ _ _ _ _ _ g0]; rfl
  have HLL := Lib.hid hl.len
  by_cases h1 : nl = 1
  · obtain ⟨l, rfl⟩ : ∃ l, ls = [l] := by
      have := hl.len
      rw [h1] at this
      exact List.length_eq_one_iff.1 this
    subst h1
    obtain ⟨b, o, av2, nv2, cv2, ap, np, cp, hal, g1, g2, g3, g4, hv2, hp2⟩ := hl.cells 0 (by simp)
    subst hal
    simp only [Nat.zero_mul, Nat.add_zero, List.getElem_cons_zero] at g1 g2 g3 g4 hv2 hp2
    obtain ⟨li, lk, lv, lp⟩ := l
    simp only at g1 g2 g3 g4 hv2 hp2
    have G1 := Lib.hid (below_cell HB0.out g1)
    have G2 := Lib.hid (below_cell HB0.out g2)
    have G3 := Lib.hid (below_cell HB0.out g3)
    have G4 := Lib.hid (below_cell HB0.out g4)
    have HR := Lib.hid (hr.below HB0.out)
    have HV := Lib.hid (hv.below HB0.out)
    have HV2 := Lib.hid (hv2.below HB0.out)
    have HP2 := Lib.hid (hp2.below HB0.out)
    have HK := Lib.hid (hK.below hK.pos HB0.out)
    clear hr hv hl hK hv2 hp2 g1 g2 g3 g4 g0 HLL
    have E1 : Hid (verifyV root key value ⟨n, [⟨li, lk, lv, lp⟩]⟩ = (decide (lk = key) && decide (lv = value) && holdsV root n ⟨li, lk, lv, lp⟩)) := rfl
    go_enter Tryd.func57, Tryd.ntmps57
    go_wp2_with (fail)
    generalize w.alloc (.cells #[.int .i64 n, .slice (some ⟨b, o, none⟩) 1 cl] 66) = w0 at HB0 c0 c1 G1 G2 G3 G4 HR HV HV2 HP2 HK ⊢
    have g1 := G1.out
    have g2 := G2.out
    have g3 := G3.out
    have g4 := G4.out
    by_cases hk : lk = key
    · have ek : (lk == key) = true := by rw [hk]; exact beq_self_eq_true _
      by_cases hval : lv = value
      · have E2 : Hid (verifyV root key value ⟨n, [⟨li, lk, lv, lp⟩]⟩ = holdsV root n ⟨li, lk, lv, lp⟩) := by show _ = _; rw [E1.out, decide_eq_true hk, decide_eq_true hval]; rfl
        have EV := Lib.hid (decide_eq_true hval)
        clear E1 hk hval
        have START : Hid (∀ W, Hid (Below w0.heap.size w0 W) → Hid (Below w0.heap.size w0 W) ∧ W.cell? ⟨w.heap.size, 0, none⟩ = some (.int .i64 n) ∧ W.cell? ⟨w.heap.size, 1, none⟩ = some (.slice (some ⟨b, o, none⟩) 1 cl) ∧
            W.cell? ⟨b, o, none⟩ = some (.int .i64 li) ∧ W.cell? ⟨b, o + 1, none⟩ = some (str lk) ∧ W.cell? ⟨b, o + 2, none⟩ = some (.slice av2 nv2 cv2) ∧ W.cell? ⟨b, o + 3, none⟩ = some (.slice ap np cp)) := fun W hW =>
          ⟨hW, below_cell hW.out c0, below_cell hW.out c1, below_cell hW.out g1, below_cell hW.out g2, below_cell hW.out g3, below_cell hW.out g4⟩
        have hstart : Hid (Below w0.heap.size w0 w0) := Below.refl _ _
        have hstartd : Hid (Below w0.heap.size w0 w0.drew) := (Below.refl _ _).drew
        go_region_held3 (fun W => Hid (Below w0.heap.size w0 W) ∧ W.cell? ⟨w.heap.size, 0, none⟩ = some (.int .i64 n) ∧ W.cell? ⟨w.heap.size, 1, none⟩ = some (.slice (some ⟨b, o, none⟩) 1 cl) ∧
            W.cell? ⟨b, o, none⟩ = some (.int .i64 li) ∧ W.cell? ⟨b, o + 1, none⟩ = some (str lk) ∧ W.cell? ⟨b, o + 2, none⟩ = some (.slice av2 nv2 cv2) ∧ W.cell? ⟨b, o + 3, none⟩ = some (.slice ap np cp))
          (first
            | exact START.out _ (by first | assumption | exact hid_drew (by assumption) | exact hid_row (by assumption) _))
          (first
            | (go_at_call 101; refine (same_any av2 av nv2 cv2 nv cv lv value _ (HV2.out.below (by assumption : Hid (Below w0.heap.size w0 _)).out).bs (HV.out.below (by assumption : Hid (Below w0.heap.size w0 _)).out).bs).mono ?_; rintro e w8 ⟨rfl, rfl⟩; rw [EV.out])
            | (go_at_call 103; refine (rholds_any (D := D) ar nr cr root n _ ⟨li, lk, lv, lp⟩ _ (HR.out.below (by assumption : Hid (Below w0.heap.size w0 _)).out) ⟨av2, nv2, cv2, ap, np, cp, rfl, HV2.out.below (by assumption : Hid (Below w0.heap.size w0 _)).out, HP2.out.below (by assumption : Hid (Below w0.heap.size w0 _)).out⟩ (HK.out.below HK.out.pos (by assumption : Hid (Below w0.heap.size w0 _)).out)).mono ?_; rintro e w9 ⟨rfl, hb9⟩; have HB9 : Hid (Below w0.heap.size w0 w9) := below_then hstartd.out hstartd.out.size hb9))
        all_goals (
          have HF := Lib.hid (below_then HB0.out HB0.out.size HB9.out)
          go_wp2_with (fail)
          go_ret
          exact ⟨by rw [E2.out]; rfl, HF.out⟩)
      · have E2 : Hid (verifyV root key value ⟨n, [⟨li, lk, lv, lp⟩]⟩ = false) := by show _ = _; rw [E1.out, decide_eq_false hval, Bool.and_false, Bool.false_and]
        have EV := Lib.hid (decide_eq_false hval)
        clear E1 hk hval
        go_quiet ((go_at_call 101; exact Calls.quiet_of_same ((same_any av2 av nv2 cv2 nv cv lv value _ (HV2.out.below (drewN_below w0 _)).bs (HV.out.below (drewN_below w0 _)).bs).mono (by rintro e w' ⟨rfl, rfl⟩; rw [EV.out]; exact ⟨rfl, rfl⟩))))
        have HB2 := Lib.hid (below_then HB0.out HB0.out.size (drewN_below w0 nq))
        go_wp2_with (fail)
        go_ret
        exact ⟨by rw [E2.out]; rfl, HB2.out⟩
    · have ek : (lk == key) = false := by rw [beq_eq_false_iff_ne]; exact hk
      have E2 : Hid (verifyV root key value ⟨n, [⟨li, lk, lv, lp⟩]⟩ = false) := by show _ = _; rw [E1.out, decide_eq_false hk]; rfl
      clear E1 hk
      go_quiet (fail)
      have HB2 := Lib.hid (below_then HB0.out HB0.out.size (drewN_below w0 nq))
      go_wp2_with (fail)
      go_ret
      exact ⟨by rw [E2.out]; rfl, HB2.out⟩
  · have i1 : ((nl : Int) == 1) = false := by rw [beq_eq_false_iff_ne]; omega
    have hn63 : nl ≤ 9223372036854775807 := by have := hl.cap; have := hl.big; unfold maxLen at this; omega
    have E2 : Hid (verifyV root key value ⟨n, ls⟩ = false) := verifyV_many (by rw [HLL.out]; exact h1)
    clear hr hv hl hK g0 h1
    go_enter Tryd.func57, Tryd.ntmps57
    go_wp2_with (fail)
    generalize w.alloc (.cells #[.int .i64 n, .slice al nl cl] 66) = w0 at HB0 c0 c1 ⊢
    go_quiet (fail)
    have HB2 := Lib.hid (below_then HB0.out HB0.out.size (drewN_below w0 nq))
    go_wp2_with (fail)
    go_ret
    exact ⟨by rw [E2.out]; rfl, HB2.out⟩
end Go.Proofs.YteceagldjnfeeaaDoor
