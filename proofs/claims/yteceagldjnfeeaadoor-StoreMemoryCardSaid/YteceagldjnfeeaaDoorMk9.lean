/- The walks of merkle.Verify and merkle.Absent. -/
import Derived.Test.YteceagldjnfeeaaDoorMk8
namespace Go.Proofs.YteceagldjnfeeaaDoor
open Go.RowKit
set_option linter.unusedVariables false
set_option linter.unusedSimpArgs false

/-- A slice of leaves, as it reads. -/
structure Lvs (w : World) (D : Nat) (a : Option Addr) (n c : Nat) (ls : List LeafV) : Prop where
  len : ls.length = n
  cap : n ≤ c
  big : c ≤ maxLen
  cells : ∀ j, (hj : j < ls.length) → ∃ b o av nv cv ap np cp, a = some ⟨b, o, none⟩ ∧ w.cell? ⟨b, o + j * 4, none⟩ = some (.int .i64 ls[j].i) ∧ w.cell? ⟨b, o + j * 4 + 1, none⟩ = some (str ls[j].key) ∧
    w.cell? ⟨b, o + j * 4 + 2, none⟩ = some (.slice av nv cv) ∧ w.cell? ⟨b, o + j * 4 + 3, none⟩ = some (.slice ap np cp) ∧ Pt w D (.slice av nv cv) ls[j].value ∧ Hs w D ap np cp ls[j].path
theorem Lvs.below {w w1 : World} {D : Nat} {a : Option Addr} {n c : Nat} {ls : List LeafV} (h : Lvs w D a n c ls) (hb : Below w.heap.size w w1) : Lvs w1 D a n c ls :=
  ⟨h.len, h.cap, h.big, fun j hj => by
    obtain ⟨b, o, av, nv, cv, ap, np, cp, e, h1, h2, h3, h4, h5, h6⟩ := h.cells j hj
    exact ⟨b, o, av, nv, cv, ap, np, cp, e, below_cell hb h1, below_cell hb h2, below_cell hb h3, below_cell hb h4, h5.below hb, h6.below hb⟩⟩
theorem Lvs.nil (w : World) (D : Nat) : Lvs w D none 0 0 [] := ⟨rfl, Nat.le_refl _, Nat.zero_le _, fun j hj => by simp at hj⟩

set_option maxRecDepth 100000 in
set_option maxHeartbeats 8000000 in
theorem verify_any' {D : Nat} (ar av al : Option Addr) (nr cr nv cv nl cl : Nat) (root key value : List UInt8) (p : ProofV) (w : World)
    (hr : Pt w D (.slice ar nr cr) root) (hv : Pt w D (.slice av nv cv) value) (hl : Lvs w D al nl cl p.leaves) (hK : KAt w) :
    Calls Tryd.prog 56 #[.slice ar nr cr, str key, .slice av nv cv, .agg #[.int .i64 p.n, .slice al nl cl]] w fun e w' => e = .returned (.bool (verifyV root key value p)) ∧ Below w.heap.size w w' := by
  obtain ⟨n, ls⟩ := p
  simp only at hl ⊢
  have HB0 := row_below w (.cells #[.int .i64 n, .slice al nl cl] 66)
  have g0 : (w.alloc (.cells #[.int .i64 n, .slice al nl cl] 66)).heap[w.heap.size]? = some (.cells #[.int .i64 n, .slice al nl cl] 66 (0, 0)) := heap_alloc_new w _
  have c0 : (w.alloc (.cells #[.int .i64 n, .slice al nl cl] 66)).cell? ⟨w.heap.size, 0, none⟩ = some (.int .i64 n) := by rw [cell_of_row _ _ _ _ _ _ g0]; rfl
  have c1 : (w.alloc (.cells #[.int .i64 n, .slice al nl cl] 66)).cell? ⟨w.heap.size, 1, none⟩ = some (.slice al nl cl) := by rw [cell_of_row _ _ _ _ _ _ g0]; rfl
  have hlt0 : w.heap.size < (w.alloc (.cells #[.int .i64 n, .slice al nl cl] 66)).heap.size := blk_lt g0
  have HLT0 := Lib.hid hlt0
  have HLL := Lib.hid hl.len
  by_cases h1 : nl = 1
  · obtain ⟨l, rfl⟩ : ∃ l, ls = [l] := by
      have := hl.len
      rw [h1] at this
      exact List.length_eq_one_iff.1 this
    subst h1
    obtain ⟨b, o, av2, nv2, cv2, ap, np, cp, hal, g1, g2, g3, g4, hv2, hp2⟩ := hl.cells 0 (by simp)
    subst hal
    simp only [Nat.zero_mul, Nat.add_zero, List.getElem_cons_zero] at g1 g2 g3 g4 hv2 hp2
    obtain ⟨li, lk, lv, lp⟩ := l
    simp only at g1 g2 g3 g4 hv2 hp2
    have G1 := Lib.hid (below_cell HB0.out g1)
    have G2 := Lib.hid (below_cell HB0.out g2)
    have G3 := Lib.hid (below_cell HB0.out g3)
    have G4 := Lib.hid (below_cell HB0.out g4)
    have HR := Lib.hid (hr.below HB0.out)
    have HV := Lib.hid (hv.below HB0.out)
    have HV2 := Lib.hid (hv2.below HB0.out)
    have HP2 := Lib.hid (hp2.below HB0.out)
    have HK := Lib.hid (hK.below hK.pos HB0.out)
    clear hr hv hl hK hv2 hp2 g1 g2 g3 g4 g0
    have g1 := G1.out
    have g2 := G2.out
    have g3 := G3.out
    have g4 := G4.out
    clear G1 G2 G3 G4 hlt0
    have E1 : Hid (verifyV root key value ⟨n, [⟨li, lk, lv, lp⟩]⟩ = (decide (lk = key) && decide (lv = value) && holdsV root n ⟨li, lk, lv, lp⟩)) := rfl
    by_cases hk : lk = key
    · subst hk
      have HB1 := Lib.hid (below_then HB0.out HB0.out.size (row_below (w.alloc (.cells #[.int .i64 n, .slice (some ⟨b, o, none⟩) 1 cl] 66)) (.cells #[.int .i64 li, str lk, .slice av2 nv2 cv2, .slice ap np cp] 79)).out)
      have HB01 := row_below (w.alloc (.cells #[.int .i64 n, .slice (some ⟨b, o, none⟩) 1 cl] 66)) (.cells #[.int .i64 li, str lk, .slice av2 nv2 cv2, .slice ap np cp] 79)
      go_enter Tryd.func56, Tryd.ntmps56
      go_wp2_with (fail)
      refine (equal_any av2 av nv2 cv2 nv cv lv value _ (HV2.out.below HB01.out).bs (HV.out.below HB01.out).bs).mono ?_
      rintro e w8 ⟨rfl, rfl⟩
      clear E1
      by_cases hval : lv = value
      · have E2 : Hid (verifyV root lk value ⟨n, [⟨li, lk, lv, lp⟩]⟩ = holdsV root n ⟨li, lk, lv, lp⟩) := by show _ = _; unfold verifyV; simp [hval]
        rw [decide_eq_true hval]
        clear hval
        go_wp2_with (fail)
        refine (holds_any (D := D) ar nr cr root n _ ⟨li, lk, lv, lp⟩ _ (HR.out.below HB01.out) ⟨av2, nv2, cv2, ap, np, cp, rfl, HV2.out.below HB01.out, HP2.out.below HB01.out⟩ (HK.out.below HK.out.pos HB01.out)).mono ?_
        rintro e w9 ⟨rfl, hb9⟩
        have HB9 := Lib.hid (below_then HB1.out HB1.out.size hb9)
        rw [← E2.out]
        clear hb9
        go_wp2_with (fail)
        go_ret
        exact ⟨rfl, HB9.out⟩
      · have E2 : Hid (verifyV root lk value ⟨n, [⟨li, lk, lv, lp⟩]⟩ = false) := by show _ = _; unfold verifyV; simp [hval]
        rw [decide_eq_false hval]
        clear hval
        go_wp2_with (fail)
        go_ret
        exact ⟨by rw [E2.out]; rfl, HB1.out⟩
    · have hk2 : (lk == key) = false := by rw [beq_eq_false_iff_ne]; exact hk
      have E2 : Hid (verifyV root key value ⟨n, [⟨li, lk, lv, lp⟩]⟩ = false) := by show _ = _; unfold verifyV; simp [hk]
      have HB1 := Lib.hid (below_then HB0.out HB0.out.size (row_below (w.alloc (.cells #[.int .i64 n, .slice (some ⟨b, o, none⟩) 1 cl] 66)) (.cells #[.int .i64 li, str lk, .slice av2 nv2 cv2, .slice ap np cp] 79)).out)
      clear E1
      go_enter Tryd.func56, Tryd.ntmps56
      go_wp2_with (fail)
      go_ret
      exact ⟨by rw [E2.out]; rfl, HB1.out⟩
  · have i1 : ((nl : Int) != 1) = true := by rw [bne_iff_ne]; omega
    have hn63 : nl ≤ 9223372036854775807 := by have := hl.cap; have := hl.big; unfold maxLen at this; omega
    have E2 : Hid (verifyV root key value ⟨n, ls⟩ = false) := by
      show _ = _
      have h := HLL.out
      unfold verifyV
      split
      · next l hx => simp only at hx; rw [hx] at h; simp at h; omega
      · rfl
    clear hr hv hl hK g0 hlt0 h1
    go_enter Tryd.func56, Tryd.ntmps56
    go_wp2_with (fail)
    go_ret
    exact ⟨by rw [E2.out]; rfl, HB0.out⟩
end Go.Proofs.YteceagldjnfeeaaDoor
