/- The walk of isthmusref08.Absent at two leaves. -/
import Derived.Test.YteceagldjnfeeaaDoorMkAb
import Derived.Deep.QuietTactic
import Derived.BigQuiet
namespace Go.Proofs.YteceagldjnfeeaaDoor
open Go.RowKit
set_option linter.unusedVariables false
set_option linter.unusedSimpArgs false

set_option maxRecDepth 100000 in
set_option maxHeartbeats 32000000 in
theorem rabsent_two {D : Nat} (ar al : Option Addr) (nr cr cl : Nat) (root key : List UInt8) (n : Int) (l m : LeafV) (w : World)
    (hr : Pt w D (.slice ar nr cr) root) (hl : Lvs w D al 2 cl [l, m]) (hK : KAt1 w) (hg : goodK key = true) :
    Calls Tryd.prog 59 #[.slice ar nr cr, str key, .agg #[.int .i64 n, .slice al 2 cl]] w fun e w' => e = .returned (.bool (absentV root key ⟨n, [l, m]⟩)) ∧ Below w.heap.size w w' := by
  have HB0 := row_below w (.cells #[.int .i64 n, .slice al 2 cl] 66)
  have g0 : (w.alloc (.cells #[.int .i64 n, .slice al 2 cl] 66)).heap[w.heap.size]? = some (.cells #[.int .i64 n, .slice al 2 cl] 66 (0, 0)) := heap_alloc_new w _
  have c0 : (w.alloc (.cells #[.int .i64 n, .slice al 2 cl] 66)).cell? ⟨w.heap.size, 0, none⟩ = some (.int .i64 n) := by rw [cell_of_row _ _ _ _ _ _ g0]; rfl
  have c1 : (w.alloc (.cells #[.int .i64 n, .slice al 2 cl] 66)).cell? ⟨w.heap.size, 1, none⟩ = some (.slice al 2 cl) := by rw [cell_of_row _ _ _ _ _ _ g0]; rfl
  have HR := Lib.hid (hr.below HB0.out)
  have HL := Lib.hid (hl.below HB0.out)
  have HK := Lib.hid (hK.below hK.pos HB0.out)
  have HG := Lib.hid hg
  clear hr hl hK g0 hg
  obtain ⟨b, o, av2, nv2, cv2, ap, np, cp, hal, g1, g2, g3, g4, hv2, hp2⟩ := HL.out.cells 0 (by simp)
  obtain ⟨b', o', av3, nv3, cv3, ap3, np3, cp3, hal3, f1, f2, f3, f4, hv3, hp3⟩ := HL.out.cells 1 (by simp)
  subst hal
  cases hal3
  simp only [Nat.zero_mul, Nat.add_zero, List.getElem_cons_zero] at g1 g2 g3 g4 hv2 hp2
  simp only [Nat.one_mul, List.getElem_cons_succ, List.getElem_cons_zero] at f1 f2 f3 f4 hv3 hp3
  obtain ⟨li, lk, lv, lp⟩ := l
  obtain ⟨mi, mk, mv, mp⟩ := m
  simp only at g1 g2 g3 g4 hv2 hp2 f1 f2 f3 f4 hv3 hp3
  have HV2 := Lib.hid hv2
  have HP2 := Lib.hid hp2
  have HV3 := Lib.hid hv3
  have HP3 := Lib.hid hp3
  clear hv2 hp2 hv3 hp3
  go_enter Tryd.func59, Tryd.ntmps59
  go_wp2_with (fail)
  refine (rkey_any key _).mono ?_
  rintro e w' ⟨rfl, rfl⟩
  rw [HG.out]
  go_wp2_with (fail)
  generalize w.alloc (.cells #[.int .i64 n, .slice (some ⟨b, o, none⟩) 2 cl] 66) = w0 at HB0 c0 c1 g1 g2 g3 g4 f1 f2 f3 f4 HR HL HK HV2 HP2 HV3 HP3 ⊢
  have START : Hid (∀ W, Hid (Below w0.heap.size w0 W) → Hid (Below w0.heap.size w0 W) ∧ W.cell? ⟨w.heap.size, 0, none⟩ = some (.int .i64 n) ∧ W.cell? ⟨w.heap.size, 1, none⟩ = some (.slice (some ⟨b, o, none⟩) 2 cl) ∧
      W.cell? ⟨b, o, none⟩ = some (.int .i64 li) ∧ W.cell? ⟨b, o + 1, none⟩ = some (str lk) ∧ W.cell? ⟨b, o + 2, none⟩ = some (.slice av2 nv2 cv2) ∧ W.cell? ⟨b, o + 3, none⟩ = some (.slice ap np cp) ∧
      W.cell? ⟨b, o + 4, none⟩ = some (.int .i64 mi) ∧ W.cell? ⟨b, o + 4 + 1, none⟩ = some (str mk) ∧ W.cell? ⟨b, o + 4 + 2, none⟩ = some (.slice av3 nv3 cv3) ∧ W.cell? ⟨b, o + 4 + 3, none⟩ = some (.slice ap3 np3 cp3)) := fun W hW =>
    ⟨hW, below_cell hW.out c0, below_cell hW.out c1, below_cell hW.out g1, below_cell hW.out g2, below_cell hW.out g3, below_cell hW.out g4, below_cell hW.out f1, below_cell hW.out f2, below_cell hW.out f3, below_cell hW.out f4⟩
  have CL : Hid (∀ W, Hid (Below w0.heap.size w0 W) → Calls Tryd.prog 103 #[.slice ar nr cr, .int .i64 n, .agg #[.int .i64 li, str lk, .slice av2 nv2 cv2, .slice ap np cp]] W (fun e w' => e = .returned (.bool (holdsV root n ⟨li, lk, lv, lp⟩)) ∧ Hid (Below w0.heap.size w0 w'))) := fun W hW =>
    (rholds_any (D := D) ar nr cr root n _ ⟨li, lk, lv, lp⟩ W (HR.out.below hW.out) ⟨av2, nv2, cv2, ap, np, cp, rfl, HV2.out.below hW.out, HP2.out.below hW.out⟩ (HK.out.below HK.out.pos hW.out)).mono fun e w' ⟨h1, h2⟩ => ⟨h1, below_then hW.out hW.out.size h2⟩
  have CM : Hid (∀ W, Hid (Below w0.heap.size w0 W) → Calls Tryd.prog 103 #[.slice ar nr cr, .int .i64 n, .agg #[.int .i64 mi, str mk, .slice av3 nv3 cv3, .slice ap3 np3 cp3]] W (fun e w' => e = .returned (.bool (holdsV root n ⟨mi, mk, mv, mp⟩)) ∧ Hid (Below w0.heap.size w0 w'))) := fun W hW =>
    (rholds_any (D := D) ar nr cr root n _ ⟨mi, mk, mv, mp⟩ W (HR.out.below hW.out) ⟨av3, nv3, cv3, ap3, np3, cp3, rfl, HV3.out.below hW.out, HP3.out.below hW.out⟩ (HK.out.below HK.out.pos hW.out)).mono fun e w' ⟨h1, h2⟩ => ⟨h1, below_then hW.out hW.out.size h2⟩
  have hstart : Hid (Below w0.heap.size w0 w0) := Below.refl _ _
  have hstartd : Hid (Below w0.heap.size w0 w0.drew) := (Below.refl _ _).drew
  by_cases hho : holdsV root n ⟨li, lk, lv, lp⟩ = true
  · obtain ⟨b1, b2, b3, b4⟩ := holdsV_bounds hho
    simp only at b3 b4
    have wn : IntKind.i64.wrap (li + 1) = li + 1 := IntWalk.i64_in _ (by omega)
    have HH := Lib.hid hho
    have CL2 : Hid (∀ W, Hid (Below w0.heap.size w0 W) → Calls Tryd.prog 103 #[.slice ar nr cr, .int .i64 n, .agg #[.int .i64 li, str lk, .slice av2 nv2 cv2, .slice ap np cp]] W (fun e w' => e = .returned (.bool true) ∧ (Hid (Below w0.heap.size w0 w') ∧ w'.cell? ⟨w.heap.size, 0, none⟩ = some (.int .i64 n) ∧ w'.cell? ⟨w.heap.size, 1, none⟩ = some (.slice (some ⟨b, o, none⟩) 2 cl) ∧ w'.cell? ⟨b, o, none⟩ = some (.int .i64 li) ∧ w'.cell? ⟨b, o + 1, none⟩ = some (str lk) ∧ w'.cell? ⟨b, o + 2, none⟩ = some (.slice av2 nv2 cv2) ∧ w'.cell? ⟨b, o + 3, none⟩ = some (.slice ap np cp) ∧ w'.cell? ⟨b, o + 4, none⟩ = some (.int .i64 mi) ∧ w'.cell? ⟨b, o + 4 + 1, none⟩ = some (str mk) ∧ w'.cell? ⟨b, o + 4 + 2, none⟩ = some (.slice av3 nv3 cv3) ∧ w'.cell? ⟨b, o + 4 + 3, none⟩ = some (.slice ap3 np3 cp3)))) := fun W hW => (CL.out W hW).mono fun e w' ⟨h1, h2⟩ => ⟨by rw [h1, HH.out], START.out w' h2⟩
    by_cases hho2 : holdsV root n ⟨mi, mk, mv, mp⟩ = true
    · have hr : Hid _ := absentV_2 (key := key) HG.out hho hho2
      have HH2 := Lib.hid hho2
      have CM2 : Hid (∀ W, Hid (Below w0.heap.size w0 W) → Calls Tryd.prog 103 #[.slice ar nr cr, .int .i64 n, .agg #[.int .i64 mi, str mk, .slice av3 nv3 cv3, .slice ap3 np3 cp3]] W (fun e w' => e = .returned (.bool true) ∧ (Hid (Below w0.heap.size w0 w') ∧ w'.cell? ⟨w.heap.size, 0, none⟩ = some (.int .i64 n) ∧ w'.cell? ⟨w.heap.size, 1, none⟩ = some (.slice (some ⟨b, o, none⟩) 2 cl) ∧ w'.cell? ⟨b, o, none⟩ = some (.int .i64 li) ∧ w'.cell? ⟨b, o + 1, none⟩ = some (str lk) ∧ w'.cell? ⟨b, o + 2, none⟩ = some (.slice av2 nv2 cv2) ∧ w'.cell? ⟨b, o + 3, none⟩ = some (.slice ap np cp) ∧ w'.cell? ⟨b, o + 4, none⟩ = some (.int .i64 mi) ∧ w'.cell? ⟨b, o + 4 + 1, none⟩ = some (str mk) ∧ w'.cell? ⟨b, o + 4 + 2, none⟩ = some (.slice av3 nv3 cv3) ∧ w'.cell? ⟨b, o + 4 + 3, none⟩ = some (.slice ap3 np3 cp3)))) := fun W hW => (CM.out W hW).mono fun e w' ⟨h1, h2⟩ => ⟨by rw [h1, HH2.out], START.out w' h2⟩
      simp only at hr
      clear hho hho2 b1 b2 b3 b4
      rcases four hr.out with ⟨hx, hr2⟩ | ⟨hx, hy, hr2⟩ | ⟨hx, hy, hz, hr2⟩ | ⟨hx, hy, hz, hr2⟩
      all_goals (
        have HR2 := Lib.hid hr2
        clear hr2
        refine wp_region_quiet (C := fun W => Hid (Below w0.heap.size w0 W) ∧ W.cell? ⟨w.heap.size, 0, none⟩ = some (.int .i64 n) ∧ W.cell? ⟨w.heap.size, 1, none⟩ = some (.slice (some ⟨b, o, none⟩) 2 cl) ∧ W.cell? ⟨b, o, none⟩ = some (.int .i64 li) ∧ W.cell? ⟨b, o + 1, none⟩ = some (str lk) ∧ W.cell? ⟨b, o + 2, none⟩ = some (.slice av2 nv2 cv2) ∧ W.cell? ⟨b, o + 3, none⟩ = some (.slice ap np cp) ∧ W.cell? ⟨b, o + 4, none⟩ = some (.int .i64 mi) ∧ W.cell? ⟨b, o + 4 + 1, none⟩ = some (str mk) ∧ W.cell? ⟨b, o + 4 + 2, none⟩ = some (.slice av3 nv3 cv3) ∧ W.cell? ⟨b, o + 4 + 3, none⟩ = some (.slice ap3 np3 cp3)) (by kernel_rfl) (by kernel_rfl) (START.out _ hstartd) ?_
        simp only [List.toList_toArray]
        repeat (first
          | go_big_quiet_skip
          | (go_big_quiet_want
             first
               | (go_big_quiet_op; go_big_quiet_on)
               | (unfold Oper.quiet
                  apply Exists.intro
                  refine ⟨fun W hW => ?_, ?_⟩
                  · (obtain ⟨hB, q0, q1, q2, q3, q4, q5, q6, q7, q8, q9⟩ := hW
                     unfold Oper.quietAt
                     go_simp
                     first
                       | rfl
                       | (go_at_call_of 103 (Value.agg #[.int .i64 li, str lk, .slice av2 nv2 cv2, .slice ap np cp]); exact CL2.out W hB)
                       | (go_at_call_of 103 (Value.agg #[.int .i64 mi, str mk, .slice av3 nv3 cv3, .slice ap3 np3 cp3]); exact CM2.out W hB)
                       | exact ⟨rfl, rfl⟩)
                  go_big_quiet_on
                  try simp only [Act.put, List.setIfInBounds_toArray, List.set_cons_zero, List.set_cons_succ])))
        refine wpQuiet_nil ?_
        rintro w9 ⟨HB9, _h1, _h2, _h3, _h4, _h5, _h6, _h7, _h8, _h9, _h10⟩
        clear _h1 _h2 _h3 _h4 _h5 _h6 _h7 _h8 _h9 _h10
        have HF := Lib.hid (below_then HB0.out HB0.out.size HB9.out)
        clear wn
        go_wp2_with (fail)
        go_ret
        exact ⟨by rw [HR2.out]; rfl, HF.out⟩)
    · have hho1 : holdsV root n ⟨mi, mk, mv, mp⟩ = false := by simpa using hho2
      have hr : Hid (absentV root key ⟨n, [⟨li, lk, lv, lp⟩, ⟨mi, mk, mv, mp⟩]⟩ = false) := absentV_2m hho1
      have HH2 := Lib.hid hho1
      have CM2 : Hid (∀ W, Hid (Below w0.heap.size w0 W) → Calls Tryd.prog 103 #[.slice ar nr cr, .int .i64 n, .agg #[.int .i64 mi, str mk, .slice av3 nv3 cv3, .slice ap3 np3 cp3]] W (fun e w' => e = .returned (.bool false) ∧ (Hid (Below w0.heap.size w0 w') ∧ w'.cell? ⟨w.heap.size, 0, none⟩ = some (.int .i64 n) ∧ w'.cell? ⟨w.heap.size, 1, none⟩ = some (.slice (some ⟨b, o, none⟩) 2 cl) ∧ w'.cell? ⟨b, o, none⟩ = some (.int .i64 li) ∧ w'.cell? ⟨b, o + 1, none⟩ = some (str lk) ∧ w'.cell? ⟨b, o + 2, none⟩ = some (.slice av2 nv2 cv2) ∧ w'.cell? ⟨b, o + 3, none⟩ = some (.slice ap np cp) ∧ w'.cell? ⟨b, o + 4, none⟩ = some (.int .i64 mi) ∧ w'.cell? ⟨b, o + 4 + 1, none⟩ = some (str mk) ∧ w'.cell? ⟨b, o + 4 + 2, none⟩ = some (.slice av3 nv3 cv3) ∧ w'.cell? ⟨b, o + 4 + 3, none⟩ = some (.slice ap3 np3 cp3)))) := fun W hW => (CM.out W hW).mono fun e w' ⟨h1, h2⟩ => ⟨by rw [h1, HH2.out], START.out w' h2⟩
      clear hho hho2 hho1 b1 b2 b3 b4
      refine wp_region_quiet (C := fun W => Hid (Below w0.heap.size w0 W) ∧ W.cell? ⟨w.heap.size, 0, none⟩ = some (.int .i64 n) ∧ W.cell? ⟨w.heap.size, 1, none⟩ = some (.slice (some ⟨b, o, none⟩) 2 cl) ∧ W.cell? ⟨b, o, none⟩ = some (.int .i64 li) ∧ W.cell? ⟨b, o + 1, none⟩ = some (str lk) ∧ W.cell? ⟨b, o + 2, none⟩ = some (.slice av2 nv2 cv2) ∧ W.cell? ⟨b, o + 3, none⟩ = some (.slice ap np cp) ∧ W.cell? ⟨b, o + 4, none⟩ = some (.int .i64 mi) ∧ W.cell? ⟨b, o + 4 + 1, none⟩ = some (str mk) ∧ W.cell? ⟨b, o + 4 + 2, none⟩ = some (.slice av3 nv3 cv3) ∧ W.cell? ⟨b, o + 4 + 3, none⟩ = some (.slice ap3 np3 cp3)) (by kernel_rfl) (by kernel_rfl) (START.out _ hstartd) ?_
      simp only [List.toList_toArray]
      repeat (first
        | go_big_quiet_skip
        | (go_big_quiet_want
           first
             | (go_big_quiet_op; go_big_quiet_on)
             | (unfold Oper.quiet
                apply Exists.intro
                refine ⟨fun W hW => ?_, ?_⟩
                · (obtain ⟨hB, q0, q1, q2, q3, q4, q5, q6, q7, q8, q9⟩ := hW
                   unfold Oper.quietAt
                   go_simp
                   first
                     | rfl
                     | (go_at_call_of 103 (Value.agg #[.int .i64 li, str lk, .slice av2 nv2 cv2, .slice ap np cp]); exact CL2.out W hB)
                     | (go_at_call_of 103 (Value.agg #[.int .i64 mi, str mk, .slice av3 nv3 cv3, .slice ap3 np3 cp3]); exact CM2.out W hB)
                     | exact ⟨rfl, rfl⟩)
                go_big_quiet_on
                try simp only [Act.put, List.setIfInBounds_toArray, List.set_cons_zero, List.set_cons_succ])))
      refine wpQuiet_nil ?_
      rintro w9 ⟨HB9, _h1, _h2, _h3, _h4, _h5, _h6, _h7, _h8, _h9, _h10⟩
      clear _h1 _h2 _h3 _h4 _h5 _h6 _h7 _h8 _h9 _h10
      have HF := Lib.hid (below_then HB0.out HB0.out.size HB9.out)
      clear wn
      go_wp2_with (fail)
      go_ret
      exact ⟨by rw [hr.out]; rfl, HF.out⟩
  · have hho1 : holdsV root n ⟨li, lk, lv, lp⟩ = false := by simpa using hho
    have hr : Hid (absentV root key ⟨n, [⟨li, lk, lv, lp⟩, ⟨mi, mk, mv, mp⟩]⟩ = false) := absentV_2n hho1
    have HH := Lib.hid hho1
    have CL2 : Hid (∀ W, Hid (Below w0.heap.size w0 W) → Calls Tryd.prog 103 #[.slice ar nr cr, .int .i64 n, .agg #[.int .i64 li, str lk, .slice av2 nv2 cv2, .slice ap np cp]] W (fun e w' => e = .returned (.bool false) ∧ (Hid (Below w0.heap.size w0 w') ∧ w'.cell? ⟨w.heap.size, 0, none⟩ = some (.int .i64 n) ∧ w'.cell? ⟨w.heap.size, 1, none⟩ = some (.slice (some ⟨b, o, none⟩) 2 cl) ∧ w'.cell? ⟨b, o, none⟩ = some (.int .i64 li) ∧ w'.cell? ⟨b, o + 1, none⟩ = some (str lk) ∧ w'.cell? ⟨b, o + 2, none⟩ = some (.slice av2 nv2 cv2) ∧ w'.cell? ⟨b, o + 3, none⟩ = some (.slice ap np cp) ∧ w'.cell? ⟨b, o + 4, none⟩ = some (.int .i64 mi) ∧ w'.cell? ⟨b, o + 4 + 1, none⟩ = some (str mk) ∧ w'.cell? ⟨b, o + 4 + 2, none⟩ = some (.slice av3 nv3 cv3) ∧ w'.cell? ⟨b, o + 4 + 3, none⟩ = some (.slice ap3 np3 cp3)))) := fun W hW => (CL.out W hW).mono fun e w' ⟨h1, h2⟩ => ⟨by rw [h1, HH.out], START.out w' h2⟩
    have CM2 := CM
    clear hho hho1
    refine wp_region_quiet (C := fun W => Hid (Below w0.heap.size w0 W) ∧ W.cell? ⟨w.heap.size, 0, none⟩ = some (.int .i64 n) ∧ W.cell? ⟨w.heap.size, 1, none⟩ = some (.slice (some ⟨b, o, none⟩) 2 cl) ∧ W.cell? ⟨b, o, none⟩ = some (.int .i64 li) ∧ W.cell? ⟨b, o + 1, none⟩ = some (str lk) ∧ W.cell? ⟨b, o + 2, none⟩ = some (.slice av2 nv2 cv2) ∧ W.cell? ⟨b, o + 3, none⟩ = some (.slice ap np cp) ∧ W.cell? ⟨b, o + 4, none⟩ = some (.int .i64 mi) ∧ W.cell? ⟨b, o + 4 + 1, none⟩ = some (str mk) ∧ W.cell? ⟨b, o + 4 + 2, none⟩ = some (.slice av3 nv3 cv3) ∧ W.cell? ⟨b, o + 4 + 3, none⟩ = some (.slice ap3 np3 cp3)) (by kernel_rfl) (by kernel_rfl) (START.out _ hstartd) ?_
    simp only [List.toList_toArray]
    repeat (first
      | go_big_quiet_skip
      | (go_big_quiet_want
         first
           | (go_big_quiet_op; go_big_quiet_on)
           | (unfold Oper.quiet
              apply Exists.intro
              refine ⟨fun W hW => ?_, ?_⟩
              · (obtain ⟨hB, q0, q1, q2, q3, q4, q5, q6, q7, q8, q9⟩ := hW
                 unfold Oper.quietAt
                 go_simp
                 first
                   | rfl
                   | (go_at_call_of 103 (Value.agg #[.int .i64 li, str lk, .slice av2 nv2 cv2, .slice ap np cp]); exact CL2.out W hB)
                   | (go_at_call_of 103 (Value.agg #[.int .i64 mi, str mk, .slice av3 nv3 cv3, .slice ap3 np3 cp3]); exact CM2.out W hB)
                   | exact ⟨rfl, rfl⟩)
              go_big_quiet_on
              try simp only [Act.put, List.setIfInBounds_toArray, List.set_cons_zero, List.set_cons_succ])))
    refine wpQuiet_nil ?_
    rintro w9 ⟨HB9, _h1, _h2, _h3, _h4, _h5, _h6, _h7, _h8, _h9, _h10⟩
    clear _h1 _h2 _h3 _h4 _h5 _h6 _h7 _h8 _h9 _h10
    have HF := Lib.hid (below_then HB0.out HB0.out.size HB9.out)
    go_wp2_with (fail)
    go_ret
    exact ⟨by rw [hr.out]; rfl, HF.out⟩
end Go.Proofs.YteceagldjnfeeaaDoor
