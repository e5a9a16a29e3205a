/- The walk of merkle.holds. -/
import Derived.Test.YteceagldjnfeeaaDoorMk7
namespace Go.Proofs.YteceagldjnfeeaaDoor
open Go.RowKit
set_option linter.unusedVariables false
set_option linter.unusedSimpArgs false

theorem holdsV_no {root : List UInt8} {n : Int} {l : LeafV} (h : ¬ (1 ≤ n ∧ n ≤ 65536 ∧ 0 ≤ l.i ∧ l.i < n)) : holdsV root n l = false := by
  unfold holdsV; rw [decide_eq_false h]; rfl
theorem holdsV_key {root : List UInt8} {n : Int} {l : LeafV} (h : goodK l.key = false) : holdsV root n l = false := by
  unfold holdsV; rw [h]; simp
theorem holdsV_val {root : List UInt8} {n : Int} {l : LeafV} (h : ¬ l.value.length ≤ 65535) : holdsV root n l = false := by
  unfold holdsV; rw [decide_eq_false h]; simp
theorem holdsV_in {root : List UInt8} {n : Int} {l : LeafV} (h : 1 ≤ n ∧ n ≤ 65536 ∧ 0 ≤ l.i ∧ l.i < n) (h1 : goodK l.key = true) (h2 : l.value.length ≤ 65535) :
    holdsV root n l = (wayOk l.i.toNat n.toNat l.path && decide (topH n.toNat (upOf (leafH (l.key, l.value)) l.i.toNat n.toNat l.path) = root)) := by
  unfold holdsV; rw [decide_eq_true h, h1, decide_eq_true h2]; rfl

/-- A leaf, as it reads. -/
structure Lf (w : World) (D : Nat) (cs : Array Value) (l : LeafV) : Prop where
  ex : ∃ av nv cv ap np cp, cs = #[.int .i64 l.i, str l.key, .slice av nv cv, .slice ap np cp] ∧ Pt w D (.slice av nv cv) l.value ∧ Hs w D ap np cp l.path
theorem Lf.below {w w1 : World} {D : Nat} {cs : Array Value} {l : LeafV} (h : Lf w D cs l) (hb : Below w.heap.size w w1) : Lf w1 D cs l := by
  obtain ⟨av, nv, cv, ap, np, cp, e, h1, h2⟩ := h.ex
  exact ⟨av, nv, cv, ap, np, cp, e, h1.below hb, h2.below hb⟩

set_option maxRecDepth 100000 in
set_option maxHeartbeats 8000000 in
theorem holds_any {D : Nat} (ar : Option Addr) (nr cr : Nat) (root : List UInt8) (n : Int) (cs : Array Value) (l : LeafV) (w : World)
    (hr : Pt w D (.slice ar nr cr) root) (hl : Lf w D cs l) (hK : KAt w) :
    Calls Tryd.prog 102 #[.slice ar nr cr, .int .i64 n, .agg cs] w fun e w' => e = .returned (.bool (holdsV root n l)) ∧ Below w.heap.size w w' := by
  obtain ⟨li, key, value, path⟩ := l
  obtain ⟨av, nv, cv, ap, np, cp, rfl, hv, hp⟩ := hl.ex
  simp only at hv hp ⊢
  have hvl := hv.bs.blen
  have HB0 := row_below w (.cells #[.int .i64 li, str key, .slice av nv cv, .slice ap np cp] 79)
  have g0 : (w.alloc (.cells #[.int .i64 li, str key, .slice av nv cv, .slice ap np cp] 79)).heap[w.heap.size]? = some (.cells #[.int .i64 li, str key, .slice av nv cv, .slice ap np cp] 79 (0, 0)) := heap_alloc_new w _
  have c0 : (w.alloc (.cells #[.int .i64 li, str key, .slice av nv cv, .slice ap np cp] 79)).cell? ⟨w.heap.size, 0, none⟩ = some (.int .i64 li) := by rw [cell_of_row _ _ _ _ _ _ g0]; rfl
  have c1 : (w.alloc (.cells #[.int .i64 li, str key, .slice av nv cv, .slice ap np cp] 79)).cell? ⟨w.heap.size, 1, none⟩ = some (str key) := by rw [cell_of_row _ _ _ _ _ _ g0]; rfl
  have c2 : (w.alloc (.cells #[.int .i64 li, str key, .slice av nv cv, .slice ap np cp] 79)).cell? ⟨w.heap.size, 2, none⟩ = some (.slice av nv cv) := by rw [cell_of_row _ _ _ _ _ _ g0]; rfl
  have c3 : (w.alloc (.cells #[.int .i64 li, str key, .slice av nv cv, .slice ap np cp] 79)).cell? ⟨w.heap.size, 3, none⟩ = some (.slice ap np cp) := by rw [cell_of_row _ _ _ _ _ _ g0]; rfl
  have HR := Lib.hid (hr.below HB0.out)
  have HV := Lib.hid (hv.below HB0.out)
  have HP := Lib.hid (hp.below HB0.out)
  have HK := Lib.hid (hK.below hK.pos HB0.out)
  clear hr hl hK hv hp g0
  by_cases a1 : n < 1
  · have hr : Hid (holdsV root n ⟨li, key, value, path⟩ = false) := holdsV_no (by intro h; omega)
    go_enter Tryd.func102, Tryd.ntmps102
    go_wp2_with (fail)
    go_ret
    exact ⟨by rw [hr.out]; rfl, HB0.out⟩
  · have b1 : 1 ≤ n := by omega
    by_cases a2 : 65536 < n
    · have hr : Hid (holdsV root n ⟨li, key, value, path⟩ = false) := holdsV_no (by intro h; omega)
      go_enter Tryd.func102, Tryd.ntmps102
      go_wp2_with (fail)
      go_ret
      exact ⟨by rw [hr.out]; rfl, HB0.out⟩
    · have b2 : n ≤ 65536 := by omega
      by_cases a3 : li < 0
      · have hr : Hid (holdsV root n ⟨li, key, value, path⟩ = false) := holdsV_no (by intro h; have := h.2.2.1; simp only at this; omega)
        go_enter Tryd.func102, Tryd.ntmps102
        go_wp2_with (fail)
        go_ret
        exact ⟨by rw [hr.out]; rfl, HB0.out⟩
      · have b3 : 0 ≤ li := by omega
        by_cases a4 : n ≤ li
        · have hr : Hid (holdsV root n ⟨li, key, value, path⟩ = false) := holdsV_no (by intro h; have := h.2.2.2; simp only at this; omega)
          go_enter Tryd.func102, Tryd.ntmps102
          go_wp2_with (fail)
          go_ret
          exact ⟨by rw [hr.out]; rfl, HB0.out⟩
        · have b4 : li < n := by omega
          by_cases hg : goodK key = true
          · have HG := Lib.hid hg
            have hkl : Hid (key.length ≤ maxLen) := by
              unfold goodK at hg
              simp only [Bool.and_eq_true, decide_eq_true_eq] at hg
              have := hg.2
              show _ ≤ _
              unfold maxLen
              omega
            clear hg
            by_cases a5 : 65535 < nv
            · have hr : Hid (holdsV root n ⟨li, key, value, path⟩ = false) := holdsV_val (by simp only; omega)
              have a6 : (65535 : Int) < (nv : Int) := by omega
              go_enter Tryd.func102, Tryd.ntmps102
              go_wp2_with (fail)
              refine (good_any key _).mono ?_
              rintro e w' ⟨rfl, rfl⟩
              rw [HG.out]
              go_wp2_with (fail)
              go_ret
              exact ⟨by rw [hr.out]; rfl, HB0.out⟩
            · have a6 : ¬ (65535 : Int) < (nv : Int) := by omega
              have a7 : (nv : Int) ≤ 65535 := by omega
              obtain ⟨ni, rfl⟩ : ∃ k : Nat, n = (k : Int) := ⟨n.toNat, by omega⟩
              obtain ⟨ii, rfl⟩ : ∃ k : Nat, li = (k : Int) := ⟨li.toNat, by omega⟩
              have hii : ii < ni := by omega
              have hni : ni ≤ 65536 := by omega
              have hr : Hid (holdsV root (ni : Int) ⟨(ii : Int), key, value, path⟩ = (wayOk ii ni path && decide (topH ni (upOf (leafH (key, value)) ii ni path) = root))) := by
                show _ = _
                rw [holdsV_in ⟨b1, b2, b3, b4⟩ HG.out (by simp only; omega)]
                rfl
              have HII := Lib.hid hii
              have HNI := Lib.hid hni
              clear hii hni hvl
              go_enter Tryd.func102, Tryd.ntmps102
              go_wp2_with (fail)
              refine (good_any key _).mono ?_
              rintro e w' ⟨rfl, rfl⟩
              rw [HG.out]
              go_wp2_with (fail)
              generalize w.alloc (.cells #[.int .i64 (ii : Int), str key, .slice av nv cv, .slice ap np cp] 79) = w0 at HB0 c0 c1 c2 c3 HR HV HP HK ⊢
              have START : Hid (∀ W, Below w0.heap.size w0 W → W.cell? ⟨w.heap.size, 0, none⟩ = some (.int .i64 (ii : Int)) ∧ W.cell? ⟨w.heap.size, 1, none⟩ = some (str key) ∧ W.cell? ⟨w.heap.size, 2, none⟩ = some (.slice av nv cv) ∧ W.cell? ⟨w.heap.size, 3, none⟩ = some (.slice ap np cp)) := fun W hb =>
                ⟨below_cell hb c0, below_cell hb c1, below_cell hb c2, below_cell hb c3⟩
              have hstart : Hid (Below w0.heap.size w0 w0) := Below.refl _ _
              have hstartd : Hid (Below w0.heap.size w0 w0.drew) := (Below.refl _ _).drew
              clear a1 a2 a3 a4 a5 a6
              go_region_held3 (fun W => Hid (Below w0.heap.size w0 W) ∧ W.cell? ⟨w.heap.size, 0, none⟩ = some (.int .i64 (ii : Int)) ∧ W.cell? ⟨w.heap.size, 1, none⟩ = some (str key) ∧ W.cell? ⟨w.heap.size, 2, none⟩ = some (.slice av nv cv) ∧ W.cell? ⟨w.heap.size, 3, none⟩ = some (.slice ap np cp))
                (first
                  | exact ⟨by assumption, by assumption, by assumption, by assumption, by assumption⟩
                  | exact ⟨hid_drew (by assumption), by assumption, by assumption, by assumption, by assumption⟩
                  | go_keep)
                (first
                  | (go_at_call 120; refine (mleaf_any D key value av nv cv _ hkl.out (HV.out.below (by assumption : Hid (Below w0.heap.size w0 _)).out) (HK.out.below HK.out.pos (by assumption : Hid (Below w0.heap.size w0 _)).out)).mono ?_; rintro e w5 ⟨a5, n5, c5, rfl, HX5, HP5⟩; have HB5 : Hid (Below w0.heap.size w0 w5) := below_then hstartd.out hstartd.out.size HX5; obtain ⟨x0, x1, x2, x3⟩ := START.out w5 HB5.out)
                  | (go_at_call 126; refine (climb_any (D := D) a5 ap n5 c5 np cp ii ni (leafH (key, value)) path w5 HII.out HNI.out HP5 (HP.out.below HB5.out) (HK.out.below HK.out.pos HB5.out)).mono ?_; rintro e w6 ⟨a6, n6, c6, rfl, HX6, HP6⟩; have HB6 : Hid (Below w0.heap.size w0 w6) := below_then HB5.out HB5.out.size HX6; obtain ⟨y0, y1, y2, y3⟩ := START.out w6 HB6.out))
              have HP7 : Hid (wayOk ii ni path = true → Pt w6 D (.slice a6 n6 c6) (upOf (leafH (key, value)) ii ni path)) := HP6
              clear x0 x1 x2 x3 y0 y1 y2 y3 HP6 HX6 HX5 HP5 c0 c1 c2 c3
              by_cases hw : wayOk ii ni path = true
              · have HP8 := Lib.hid (HP7.out hw)
                have hr2 : Hid (holdsV root (ni : Int) ⟨(ii : Int), key, value, path⟩ = decide (topH ni (upOf (leafH (key, value)) ii ni path) = root)) := by show _ = _; rw [hr.out, hw, Bool.true_and]
                rw [hw]
                clear hw
                go_wp2_with (fail)
                refine (top_any D ni _ a6 n6 c6 w6 HNI.out HP8.out (HK.out.below HK.out.pos HB6.out)).mono ?_
                rintro e w7 ⟨a7, n7, c7, rfl, hb7, hp7⟩
                have HB7 := Lib.hid (below_then HB6.out HB6.out.size hb7)
                have HP9 := Lib.hid hp7
                clear hb7 hp7
                go_wp2_with (fail)
                refine (equal_any a7 ar n7 c7 nr cr _ root w7 HP9.out.bs (HR.out.below HB7.out).bs).mono ?_
                rintro e w8 ⟨rfl, rfl⟩
                rw [← hr2.out]
                go_wp2_with (fail)
                go_ret
                exact ⟨rfl, below_then HB0.out HB0.out.size HB7.out⟩
              · have hw1 : wayOk ii ni path = false := by simpa using hw
                have hr2 : Hid (holdsV root (ni : Int) ⟨(ii : Int), key, value, path⟩ = false) := by show _ = _; rw [hr.out, hw1, Bool.false_and]
                rw [hw1]
                clear hw hw1
                go_wp2_with (fail)
                go_ret
                exact ⟨by rw [hr2.out]; rfl, below_then HB0.out HB0.out.size HB6.out⟩
          · have hg1 : goodK key = false := by simpa using hg
            have hr : Hid (holdsV root n ⟨li, key, value, path⟩ = false) := holdsV_key hg1
            have HG := Lib.hid hg1
            clear hg hg1
            go_enter Tryd.func102, Tryd.ntmps102
            go_wp2_with (fail)
            refine (good_any key _).mono ?_
            rintro e w' ⟨rfl, rfl⟩
            rw [HG.out]
            go_wp2_with (fail)
            go_ret
            exact ⟨by rw [hr.out]; rfl, HB0.out⟩
end Go.Proofs.YteceagldjnfeeaaDoor
