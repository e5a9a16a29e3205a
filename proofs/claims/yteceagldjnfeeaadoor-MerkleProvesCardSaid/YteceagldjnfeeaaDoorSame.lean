/- The walk of isthmusref08.SameProof. -/
import Derived.Test.YteceagldjnfeeaaDoorRshown
import Derived.Test.YteceagldjnfeeaaDoorMk14
import Derived.Outline
namespace Go.Proofs.YteceagldjnfeeaaDoor
open Go.RowKit
set_option linter.unusedVariables false
set_option linter.unusedSimpArgs false

set_option maxRecDepth 100000 in
set_option maxHeartbeats 16000000 in
/-- Two proofs that read alike are the same. -/
theorem sameProof_any {D D' : Nat} (al bl : Option Addr) (nl cl cl' : Nat) (p : ProofV) (w : World) (h1 : Lvs w D al nl cl p.leaves) (h2 : Lvs w D' bl nl cl' p.leaves) :
    Calls Tryd.prog 55 #[.agg #[.int .i64 p.n, .slice al nl cl], .agg #[.int .i64 p.n, .slice bl nl cl']] w fun e w' => e = .returned (.bool true) ∧ Below w.heap.size w w' := by
  obtain ⟨N, ls⟩ := p
  simp only at h1 h2 ⊢
  have HB0 : Hid (Below w.heap.size w ((w.alloc (.cells #[.int .i64 N, .slice al nl cl] 66)).alloc (.cells #[.int .i64 N, .slice bl nl cl'] 66))) := hid_row (row_below w _) _
  have hz : (w.alloc (.cells #[.int .i64 N, .slice al nl cl] 66)).heap.size = w.heap.size + 1 := Array.size_push _
  have g0 : ((w.alloc (.cells #[.int .i64 N, .slice al nl cl] 66)).alloc (.cells #[.int .i64 N, .slice bl nl cl'] 66)).heap[w.heap.size]? = some (.cells #[.int .i64 N, .slice al nl cl] 66 (0, 0)) := later_blk (heap_alloc_new w _) (row_below _ _).out
  have g1 : ((w.alloc (.cells #[.int .i64 N, .slice al nl cl] 66)).alloc (.cells #[.int .i64 N, .slice bl nl cl'] 66)).heap[w.heap.size + 1]? = some (.cells #[.int .i64 N, .slice bl nl cl'] 66 (0, 0)) := by rw [← hz]; exact heap_alloc_new _ _
  have G0 := Lib.hid g0
  have G1 := Lib.hid g1
  have H1 := Lib.hid (h1.below HB0.out)
  have H2 := Lib.hid (h2.below HB0.out)
  have HLL := Lib.hid h1.len
  have hn63 : nl ≤ 9223372036854775807 := by have := h1.cap; have := h1.big; unfold maxLen at this; omega
  have c0 := (show ((w.alloc (.cells #[.int .i64 N, .slice al nl cl] 66)).alloc (.cells #[.int .i64 N, .slice bl nl cl'] 66)).cell? ⟨w.heap.size, 0, none⟩ = some (.int .i64 N) by rw [cell_of_row _ _ _ _ _ _ g0]; rfl)
  have c1 := (show ((w.alloc (.cells #[.int .i64 N, .slice al nl cl] 66)).alloc (.cells #[.int .i64 N, .slice bl nl cl'] 66)).cell? ⟨w.heap.size, 1, none⟩ = some (.slice al nl cl) by rw [cell_of_row _ _ _ _ _ _ g0]; rfl)
  have c2 := (show ((w.alloc (.cells #[.int .i64 N, .slice al nl cl] 66)).alloc (.cells #[.int .i64 N, .slice bl nl cl'] 66)).cell? ⟨w.heap.size + 1, 0, none⟩ = some (.int .i64 N) by rw [cell_of_row _ _ _ _ _ _ g1]; rfl)
  have c3 := (show ((w.alloc (.cells #[.int .i64 N, .slice al nl cl] 66)).alloc (.cells #[.int .i64 N, .slice bl nl cl'] 66)).cell? ⟨w.heap.size + 1, 1, none⟩ = some (.slice bl nl cl') by rw [cell_of_row _ _ _ _ _ _ g1]; rfl)
  have k0 : (N != N) = false := by simp
  have k1 : ((nl : Int) != (nl : Int)) = false := by simp
  clear h1 h2 hz g0 g1
  go_enter Tryd.func55, Tryd.ntmps55
  go_wp2_with (fail)
  generalize (w.alloc (.cells #[.int .i64 N, .slice al nl cl] 66)).alloc (.cells #[.int .i64 N, .slice bl nl cl'] 66) = w0 at HB0 G0 G1 H1 H2 c0 c1 c2 c3 ⊢
  clear k0 k1
  have C0 := Lib.hid c0
  have C1 := Lib.hid c1
  have C2 := Lib.hid c2
  have C3 := Lib.hid c3
  clear c0 c1 c2 c3
  go_loopw [26] (fun x wr => ∃ j : Nat, j ≤ nl ∧ x = .int .i64 j ∧ Hid (Below w0.heap.size w0 wr)) (fun x _ => nl - (intOf x).toNat)
  case atStart => exact ⟨0, by omega, rfl, Below.refl _ _⟩
  case round =>
    obtain ⟨j, hj, rfl, HB⟩ := hrel
    by_cases hlt : j < nl
    · have hjl : j < ls.length := by rw [HLL.out]; exact hlt
      obtain ⟨b, o, av, nv, cv, ap, np, cp, hal, g1, g2, g3, g4, hv, hp⟩ := (H1.out.below HB.out).cells j hjl
      obtain ⟨b', o', av', nv', cv', ap', np', cp', hal', f1, f2, f3, f4, hv', hp'⟩ := (H2.out.below HB.out).cells j hjl
      subst hal hal'
      generalize ls[j] = l at g1 g2 g3 g4 hv hp f1 f2 f3 f4 hv' hp'
      obtain ⟨li, lk, lv, lp⟩ := l
      simp only at g1 g2 g3 g4 hv hp f1 f2 f3 f4 hv' hp'
      obtain rfl : np = np' := by rw [← hp.len, ← hp'.len]
      have hnp : np ≤ 9223372036854775807 := by have := hp.caps; unfold maxLen at this; omega
      have j0 : (0 : Int) ≤ (j : Int) := by omega
      have j1 : (j : Int) < (nl : Int) := by omega
      have START : Hid (∀ W, Hid (Below wr.heap.size wr W) → Hid (Below wr.heap.size wr W) ∧ W.cell? ⟨w.heap.size, 1, none⟩ = some (.slice (some ⟨b, o, none⟩) nl cl) ∧ W.cell? ⟨w.heap.size + 1, 1, none⟩ = some (.slice (some ⟨b', o', none⟩) nl cl') ∧
          W.cell? ⟨b, o + j * 4, none⟩ = some (.int .i64 li) ∧ W.cell? ⟨b, o + j * 4 + 1, none⟩ = some (str lk) ∧ W.cell? ⟨b, o + j * 4 + 2, none⟩ = some (.slice av nv cv) ∧ W.cell? ⟨b, o + j * 4 + 3, none⟩ = some (.slice ap np cp) ∧
          W.cell? ⟨b', o' + j * 4, none⟩ = some (.int .i64 li) ∧ W.cell? ⟨b', o' + j * 4 + 1, none⟩ = some (str lk) ∧ W.cell? ⟨b', o' + j * 4 + 2, none⟩ = some (.slice av' nv' cv') ∧ W.cell? ⟨b', o' + j * 4 + 3, none⟩ = some (.slice ap' np cp')) := fun W hW =>
        ⟨hW, below_cell hW.out (below_cell HB.out C1.out), below_cell hW.out (below_cell HB.out C3.out), below_cell hW.out g1, below_cell hW.out g2, below_cell hW.out g3, below_cell hW.out g4, below_cell hW.out f1, below_cell hW.out f2, below_cell hW.out f3, below_cell hW.out f4⟩
      have hs0 : Hid (Below wr.heap.size wr wr) := Below.refl _ _
      have HV := Lib.hid hv
      have HV' := Lib.hid hv'
      have HP := Lib.hid hp
      have HP' := Lib.hid hp'
      clear hv hv' hp hp' hjl
      go_wp2_with (fail)
      go_region_held3 (fun W => Hid (Below wr.heap.size wr W) ∧ W.cell? ⟨w.heap.size, 1, none⟩ = some (.slice (some ⟨b, o, none⟩) nl cl) ∧ W.cell? ⟨w.heap.size + 1, 1, none⟩ = some (.slice (some ⟨b', o', none⟩) nl cl') ∧
          W.cell? ⟨b, o + j * 4, none⟩ = some (.int .i64 li) ∧ W.cell? ⟨b, o + j * 4 + 1, none⟩ = some (str lk) ∧ W.cell? ⟨b, o + j * 4 + 2, none⟩ = some (.slice av nv cv) ∧ W.cell? ⟨b, o + j * 4 + 3, none⟩ = some (.slice ap np cp) ∧
          W.cell? ⟨b', o' + j * 4, none⟩ = some (.int .i64 li) ∧ W.cell? ⟨b', o' + j * 4 + 1, none⟩ = some (str lk) ∧ W.cell? ⟨b', o' + j * 4 + 2, none⟩ = some (.slice av' nv' cv') ∧ W.cell? ⟨b', o' + j * 4 + 3, none⟩ = some (.slice ap' np cp'))
        (first
          | exact START.out _ (by assumption)
          | exact START.out _ (hid_drew (by assumption))
          | exact START.out _ (hid_row (by assumption) _)
          | exact START.out _ (hid_drew (hid_row (by assumption) _))
          | exact START.out _ (hid_row (hid_row (by assumption) _) _)
          | exact START.out _ (hid_drew (hid_row (hid_row (by assumption) _) _))
          | exact START.out _ (hid_row (hid_drew (hid_row (by assumption) _)) _))
        (fail)
      · have hz : (wr.alloc (.cells #[.int .i64 li, str lk, .slice av nv cv, .slice ap np cp] 79)).heap.size = wr.heap.size + 1 := Array.size_push _
        have r0 : ((wr.alloc (.cells #[.int .i64 li, str lk, .slice av nv cv, .slice ap np cp] 79)).alloc (.cells #[.int .i64 li, str lk, .slice av' nv' cv', .slice ap' np cp'] 79)).drew.heap[wr.heap.size]? = some (.cells #[.int .i64 li, str lk, .slice av nv cv, .slice ap np cp] 79) := later_blk (heap_alloc_new wr _) (hid_drew (row_below (wr.alloc (.cells #[.int .i64 li, str lk, .slice av nv cv, .slice ap np cp] 79)) (.cells #[.int .i64 li, str lk, .slice av' nv' cv', .slice ap' np cp'] 79))).out
        have r1 : ((wr.alloc (.cells #[.int .i64 li, str lk, .slice av nv cv, .slice ap np cp] 79)).alloc (.cells #[.int .i64 li, str lk, .slice av' nv' cv', .slice ap' np cp'] 79)).drew.heap[wr.heap.size + 1]? = some (.cells #[.int .i64 li, str lk, .slice av' nv' cv', .slice ap' np cp'] 79) := by
          show ((wr.alloc (.cells #[.int .i64 li, str lk, .slice av nv cv, .slice ap np cp] 79)).alloc (.cells #[.int .i64 li, str lk, .slice av' nv' cv', .slice ap' np cp'] 79)).heap[wr.heap.size + 1]? = _
          rw [← hz]; exact heap_alloc_new _ _
        have hbw : Below wr.heap.size wr ((wr.alloc (.cells #[.int .i64 li, str lk, .slice av nv cv, .slice ap np cp] 79)).alloc (.cells #[.int .i64 li, str lk, .slice av' nv' cv', .slice ap' np cp'] 79)).drew := (hid_drew (hid_row (row_below wr (.cells #[.int .i64 li, str lk, .slice av nv cv, .slice ap np cp] 79)) (.cells #[.int .i64 li, str lk, .slice av' nv' cv', .slice ap' np cp'] 79))).out
        obtain ⟨x, hx⟩ : ∃ x, wr.heap.size = x := ⟨_, rfl⟩
        obtain ⟨y, hy⟩ : ∃ y, wr.heap.size + 1 = y := ⟨_, rfl⟩
        have RX : Hid (((wr.alloc (.cells #[.int .i64 li, str lk, .slice av nv cv, .slice ap np cp] 79)).alloc (.cells #[.int .i64 li, str lk, .slice av' nv' cv', .slice ap' np cp'] 79)).drew.heap[x]? = some (.cells #[.int .i64 li, str lk, .slice av nv cv, .slice ap np cp] 79)) := by rw [← hx]; exact r0
        have RY : Hid (((wr.alloc (.cells #[.int .i64 li, str lk, .slice av nv cv, .slice ap np cp] 79)).alloc (.cells #[.int .i64 li, str lk, .slice av' nv' cv', .slice ap' np cp'] 79)).drew.heap[y]? = some (.cells #[.int .i64 li, str lk, .slice av' nv' cv', .slice ap' np cp'] 79)) := by rw [← hy]; exact r1
        have HBX := Lib.hid hbw
        clear hz r0 r1 hbw
        rw [hy, hx]
        clear hx hy
        generalize ((wr.alloc (.cells #[.int .i64 li, str lk, .slice av nv cv, .slice ap np cp] 79)).alloc (.cells #[.int .i64 li, str lk, .slice av' nv' cv', .slice ap' np cp'] 79)).drew = w1 at RX RY HBX ⊢
        have HBW := Lib.hid (below_then HB.out HB.out.size HBX.out)
        have x0 : w1.cell? ⟨x, 0, none⟩ = some (.int .i64 li) := by rw [cell_of_row _ _ _ _ _ _ RX.out]; rfl
        have x1 : w1.cell? ⟨x, 1, none⟩ = some (str lk) := by rw [cell_of_row _ _ _ _ _ _ RX.out]; rfl
        have x2 : w1.cell? ⟨x, 2, none⟩ = some (.slice av nv cv) := by rw [cell_of_row _ _ _ _ _ _ RX.out]; rfl
        have x3 : w1.cell? ⟨x, 3, none⟩ = some (.slice ap np cp) := by rw [cell_of_row _ _ _ _ _ _ RX.out]; rfl
        have y0 : w1.cell? ⟨y, 0, none⟩ = some (.int .i64 li) := by rw [cell_of_row _ _ _ _ _ _ RY.out]; rfl
        have y1 : w1.cell? ⟨y, 1, none⟩ = some (str lk) := by rw [cell_of_row _ _ _ _ _ _ RY.out]; rfl
        have y2 : w1.cell? ⟨y, 2, none⟩ = some (.slice av' nv' cv') := by rw [cell_of_row _ _ _ _ _ _ RY.out]; rfl
        have y3 : w1.cell? ⟨y, 3, none⟩ = some (.slice ap' np cp') := by rw [cell_of_row _ _ _ _ _ _ RY.out]; rfl
        have HV1 := Lib.hid (HV.out.below HBX.out)
        have HV1' := Lib.hid (HV'.out.below HBX.out)
        have HP1 := Lib.hid (HP.out.below HBX.out)
        have HP1' := Lib.hid (HP'.out.below HBX.out)
        have e1 : (li != li) = false := by simp
        have e2 : (lk != lk) = false := by simp
        have e3 : ((np : Int) != (np : Int)) = false := by simp
        clear g1 g2 g3 g4 f1 f2 f3 f4 START hs0 HV HV' HP HP'
        go_wp2_with (fail)
        refine (same_any av av' nv cv nv' cv' lv lv w1 HV1.out.bs HV1'.out.bs).mono ?_
        rintro e w2 ⟨rfl, rfl⟩
        rw [decide_eq_true (rfl : lv = lv)]
        go_wp2_with (fail)
        have X3 := Lib.hid x3
        have Y3 := Lib.hid y3
        clear x0 x1 x2 x3 y0 y1 y2 y3 e1 e2 e3
        go_loopw [71] (fun z wr2 => ∃ m : Nat, m ≤ np ∧ z = .int .i64 m ∧ Hid (Below w2.heap.size w2 wr2)) (fun z _ => np - (intOf z).toNat)
        case atStart => exact ⟨0, by omega, rfl, Below.refl _ _⟩
        case round =>
          obtain ⟨m, hm, rfl, HB2⟩ := hrel
          by_cases hlt2 : m < np
          · obtain ⟨b3, o3, a3, n3, c3, e3, k3, q3⟩ := (HP1.out.below HB2.out).at m hlt2
            obtain ⟨b4, o4, a4, n4, c4, e4, k4, q4⟩ := (HP1'.out.below HB2.out).at m hlt2
            subst e3 e4
            have m0 : (0 : Int) ≤ (m : Int) := by omega
            have m1 : (m : Int) < (np : Int) := by omega
            have START2 : Hid (∀ W, Hid (Below wr.heap.size wr W) → Hid (Below wr.heap.size wr W) ∧ W.cell? ⟨x, 3, none⟩ = some (.slice (some ⟨b3, o3, none⟩) np cp) ∧ W.cell? ⟨y, 3, none⟩ = some (.slice (some ⟨b4, o4, none⟩) np cp') ∧ W.cell? ⟨b3, o3 + m, none⟩ = some (.slice a3 n3 c3) ∧ W.cell? ⟨b4, o4 + m, none⟩ = some (.slice a4 n4 c4)) := fun W hW =>
              ⟨hW, below_cell hW.out (below_cell HB2.out X3.out), below_cell hW.out (below_cell HB2.out Y3.out), below_cell hW.out k3, below_cell hW.out k4⟩
            have CS : Hid (∀ W, Hid (Below wr.heap.size wr W) → Calls Tryd.prog 101 #[.slice a3 n3 c3, .slice a4 n4 c4] W (fun e w' => e = .returned (.bool true) ∧ W = w')) := fun W hW =>
              (same_any a3 a4 n3 c3 n4 c4 (lp.getD m []) (lp.getD m []) W (q3.below hW.out).bs (q4.below hW.out).bs).mono fun e w' ⟨h1, h2⟩ => ⟨by rw [h1, decide_eq_true rfl], h2.symm⟩
            have hs1 : Hid (Below wr.heap.size wr wr) := Below.refl _ _
            have hs2 : Hid (Below wr.heap.size wr wr.drew) := (Below.refl _ _).drew
            have HBN : Hid (Below w2.heap.size w2 wr.drew) := HB2.out.drew
            clear k3 k4 q3 q4
            go_wp2_with (fail)
            go_region_held3 (fun W => Hid (Below wr.heap.size wr W) ∧ W.cell? ⟨x, 3, none⟩ = some (.slice (some ⟨b3, o3, none⟩) np cp) ∧ W.cell? ⟨y, 3, none⟩ = some (.slice (some ⟨b4, o4, none⟩) np cp') ∧ W.cell? ⟨b3, o3 + m, none⟩ = some (.slice a3 n3 c3) ∧ W.cell? ⟨b4, o4 + m, none⟩ = some (.slice a4 n4 c4))
              (first
                | exact START2.out _ (by assumption)
                | exact START2.out _ (hid_drew (by assumption)))
              (first
                | (go_at_call 101; refine (CS.out _ (by assumption)).mono ?_; rintro e w5 ⟨rfl, rfl⟩))
            go_wp2_with (fail)
            exact ⟨⟨m + 1, by omega, by go_num, HBN⟩, by simp [intOf]; omega⟩
          · obtain rfl : m = np := by omega
            have i6 : ¬ ((m : Int) < (m : Int)) := by omega
            have HBE := Lib.hid (below_then HBW.out HBW.out.size HB2.out)
            go_wp2_with (fail)
            exact ⟨⟨j + 1, by omega, by go_num, HBE⟩, by simp [intOf]; omega⟩
      · have hz : (wr.alloc (.cells #[.int .i64 li, str lk, .slice av' nv' cv', .slice ap' np cp'] 79)).heap.size = wr.heap.size + 1 := Array.size_push _
        have r0 : ((wr.alloc (.cells #[.int .i64 li, str lk, .slice av' nv' cv', .slice ap' np cp'] 79)).alloc (.cells #[.int .i64 li, str lk, .slice av nv cv, .slice ap np cp] 79)).drew.heap[wr.heap.size]? = some (.cells #[.int .i64 li, str lk, .slice av' nv' cv', .slice ap' np cp'] 79) := later_blk (heap_alloc_new wr _) (hid_drew (row_below (wr.alloc (.cells #[.int .i64 li, str lk, .slice av' nv' cv', .slice ap' np cp'] 79)) (.cells #[.int .i64 li, str lk, .slice av nv cv, .slice ap np cp] 79))).out
        have r1 : ((wr.alloc (.cells #[.int .i64 li, str lk, .slice av' nv' cv', .slice ap' np cp'] 79)).alloc (.cells #[.int .i64 li, str lk, .slice av nv cv, .slice ap np cp] 79)).drew.heap[wr.heap.size + 1]? = some (.cells #[.int .i64 li, str lk, .slice av nv cv, .slice ap np cp] 79) := by
          show ((wr.alloc (.cells #[.int .i64 li, str lk, .slice av' nv' cv', .slice ap' np cp'] 79)).alloc (.cells #[.int .i64 li, str lk, .slice av nv cv, .slice ap np cp] 79)).heap[wr.heap.size + 1]? = _
          rw [← hz]; exact heap_alloc_new _ _
        have hbw : Below wr.heap.size wr ((wr.alloc (.cells #[.int .i64 li, str lk, .slice av' nv' cv', .slice ap' np cp'] 79)).alloc (.cells #[.int .i64 li, str lk, .slice av nv cv, .slice ap np cp] 79)).drew := (hid_drew (hid_row (row_below wr (.cells #[.int .i64 li, str lk, .slice av' nv' cv', .slice ap' np cp'] 79)) (.cells #[.int .i64 li, str lk, .slice av nv cv, .slice ap np cp] 79))).out
        obtain ⟨x, hx⟩ : ∃ x, wr.heap.size + 1 = x := ⟨_, rfl⟩
        obtain ⟨y, hy⟩ : ∃ y, wr.heap.size = y := ⟨_, rfl⟩
        have RX : Hid (((wr.alloc (.cells #[.int .i64 li, str lk, .slice av' nv' cv', .slice ap' np cp'] 79)).alloc (.cells #[.int .i64 li, str lk, .slice av nv cv, .slice ap np cp] 79)).drew.heap[x]? = some (.cells #[.int .i64 li, str lk, .slice av nv cv, .slice ap np cp] 79)) := by rw [← hx]; exact r1
        have RY : Hid (((wr.alloc (.cells #[.int .i64 li, str lk, .slice av' nv' cv', .slice ap' np cp'] 79)).alloc (.cells #[.int .i64 li, str lk, .slice av nv cv, .slice ap np cp] 79)).drew.heap[y]? = some (.cells #[.int .i64 li, str lk, .slice av' nv' cv', .slice ap' np cp'] 79)) := by rw [← hy]; exact r0
        have HBX := Lib.hid hbw
        clear hz r0 r1 hbw
        rw [hx, hy]
        clear hx hy
        generalize ((wr.alloc (.cells #[.int .i64 li, str lk, .slice av' nv' cv', .slice ap' np cp'] 79)).alloc (.cells #[.int .i64 li, str lk, .slice av nv cv, .slice ap np cp] 79)).drew = w1 at RX RY HBX ⊢
        have HBW := Lib.hid (below_then HB.out HB.out.size HBX.out)
        have x0 : w1.cell? ⟨x, 0, none⟩ = some (.int .i64 li) := by rw [cell_of_row _ _ _ _ _ _ RX.out]; rfl
        have x1 : w1.cell? ⟨x, 1, none⟩ = some (str lk) := by rw [cell_of_row _ _ _ _ _ _ RX.out]; rfl
        have x2 : w1.cell? ⟨x, 2, none⟩ = some (.slice av nv cv) := by rw [cell_of_row _ _ _ _ _ _ RX.out]; rfl
        have x3 : w1.cell? ⟨x, 3, none⟩ = some (.slice ap np cp) := by rw [cell_of_row _ _ _ _ _ _ RX.out]; rfl
        have y0 : w1.cell? ⟨y, 0, none⟩ = some (.int .i64 li) := by rw [cell_of_row _ _ _ _ _ _ RY.out]; rfl
        have y1 : w1.cell? ⟨y, 1, none⟩ = some (str lk) := by rw [cell_of_row _ _ _ _ _ _ RY.out]; rfl
        have y2 : w1.cell? ⟨y, 2, none⟩ = some (.slice av' nv' cv') := by rw [cell_of_row _ _ _ _ _ _ RY.out]; rfl
        have y3 : w1.cell? ⟨y, 3, none⟩ = some (.slice ap' np cp') := by rw [cell_of_row _ _ _ _ _ _ RY.out]; rfl
        have HV1 := Lib.hid (HV.out.below HBX.out)
        have HV1' := Lib.hid (HV'.out.below HBX.out)
        have HP1 := Lib.hid (HP.out.below HBX.out)
        have HP1' := Lib.hid (HP'.out.below HBX.out)
        have e1 : (li != li) = false := by simp
        have e2 : (lk != lk) = false := by simp
        have e3 : ((np : Int) != (np : Int)) = false := by simp
        clear g1 g2 g3 g4 f1 f2 f3 f4 START hs0 HV HV' HP HP'
        go_wp2_with (fail)
        refine (same_any av av' nv cv nv' cv' lv lv w1 HV1.out.bs HV1'.out.bs).mono ?_
        rintro e w2 ⟨rfl, rfl⟩
        rw [decide_eq_true (rfl : lv = lv)]
        go_wp2_with (fail)
        have X3 := Lib.hid x3
        have Y3 := Lib.hid y3
        clear x0 x1 x2 x3 y0 y1 y2 y3 e1 e2 e3
        go_loopw [71] (fun z wr2 => ∃ m : Nat, m ≤ np ∧ z = .int .i64 m ∧ Hid (Below w2.heap.size w2 wr2)) (fun z _ => np - (intOf z).toNat)
        case atStart => exact ⟨0, by omega, rfl, Below.refl _ _⟩
        case round =>
          obtain ⟨m, hm, rfl, HB2⟩ := hrel
          by_cases hlt2 : m < np
          · obtain ⟨b3, o3, a3, n3, c3, e3, k3, q3⟩ := (HP1.out.below HB2.out).at m hlt2
            obtain ⟨b4, o4, a4, n4, c4, e4, k4, q4⟩ := (HP1'.out.below HB2.out).at m hlt2
            subst e3 e4
            have m0 : (0 : Int) ≤ (m : Int) := by omega
            have m1 : (m : Int) < (np : Int) := by omega
            have START2 : Hid (∀ W, Hid (Below wr.heap.size wr W) → Hid (Below wr.heap.size wr W) ∧ W.cell? ⟨x, 3, none⟩ = some (.slice (some ⟨b3, o3, none⟩) np cp) ∧ W.cell? ⟨y, 3, none⟩ = some (.slice (some ⟨b4, o4, none⟩) np cp') ∧ W.cell? ⟨b3, o3 + m, none⟩ = some (.slice a3 n3 c3) ∧ W.cell? ⟨b4, o4 + m, none⟩ = some (.slice a4 n4 c4)) := fun W hW =>
              ⟨hW, below_cell hW.out (below_cell HB2.out X3.out), below_cell hW.out (below_cell HB2.out Y3.out), below_cell hW.out k3, below_cell hW.out k4⟩
            have CS : Hid (∀ W, Hid (Below wr.heap.size wr W) → Calls Tryd.prog 101 #[.slice a3 n3 c3, .slice a4 n4 c4] W (fun e w' => e = .returned (.bool true) ∧ W = w')) := fun W hW =>
              (same_any a3 a4 n3 c3 n4 c4 (lp.getD m []) (lp.getD m []) W (q3.below hW.out).bs (q4.below hW.out).bs).mono fun e w' ⟨h1, h2⟩ => ⟨by rw [h1, decide_eq_true rfl], h2.symm⟩
            have hs1 : Hid (Below wr.heap.size wr wr) := Below.refl _ _
            have hs2 : Hid (Below wr.heap.size wr wr.drew) := (Below.refl _ _).drew
            have HBN : Hid (Below w2.heap.size w2 wr.drew) := HB2.out.drew
            clear k3 k4 q3 q4
            go_wp2_with (fail)
            go_region_held3 (fun W => Hid (Below wr.heap.size wr W) ∧ W.cell? ⟨x, 3, none⟩ = some (.slice (some ⟨b3, o3, none⟩) np cp) ∧ W.cell? ⟨y, 3, none⟩ = some (.slice (some ⟨b4, o4, none⟩) np cp') ∧ W.cell? ⟨b3, o3 + m, none⟩ = some (.slice a3 n3 c3) ∧ W.cell? ⟨b4, o4 + m, none⟩ = some (.slice a4 n4 c4))
              (first
                | exact START2.out _ (by assumption)
                | exact START2.out _ (hid_drew (by assumption)))
              (first
                | (go_at_call 101; refine (CS.out _ (by assumption)).mono ?_; rintro e w5 ⟨rfl, rfl⟩))
            go_wp2_with (fail)
            exact ⟨⟨m + 1, by omega, by go_num, HBN⟩, by simp [intOf]; omega⟩
          · obtain rfl : m = np := by omega
            have i6 : ¬ ((m : Int) < (m : Int)) := by omega
            have HBE := Lib.hid (below_then HBW.out HBW.out.size HB2.out)
            go_wp2_with (fail)
            exact ⟨⟨j + 1, by omega, by go_num, HBE⟩, by simp [intOf]; omega⟩
    · obtain rfl : j = nl := by omega
      have i5 : ¬ ((j : Int) < (j : Int)) := by omega
      go_wp2_with (fail)
      go_ret
      exact ⟨rfl, below_then HB0.out HB0.out.size HB.out⟩
end Go.Proofs.YteceagldjnfeeaaDoor
