/- The walks of isthmuslaw04: same and SignRoots. -/
import Derived.Test.YteceagldjnfeeaaDoorSgr
namespace Go.Proofs.YteceagldjnfeeaaDoor
open Go.RowKit
set_option linter.unusedVariables false
set_option linter.unusedSimpArgs false

set_option maxRecDepth 100000 in
set_option maxHeartbeats 1000000 in
theorem same4_any (a1 a2 : Option Addr) (n1 c1 n2 c2 : Nat) (xs ys : List UInt8) (w : World) (h1 : Bs w a1 n1 c1 xs) (h2 : Bs w a2 n2 c2 ys) :
    Calls Tryd.prog 34 #[.slice a1 n1 c1, .slice a2 n2 c2] w fun e w' => e = .returned (.bool (decide (xs = ys))) ∧ Below w.heap.size w w' := by
  have hx := h1.blen
  have hy := h2.blen
  by_cases hne : n1 = n2
  · subst hne
    have hn : n1 ≤ 9223372036854775807 := by have := h1.cap; have := h1.big; unfold maxLen at this; omega
    have H1 := Lib.hid h1
    have H2 := Lib.hid h2
    have HX := Lib.hid hx
    have HY := Lib.hid hy
    clear h1 h2 hx hy
    have hnn : ((n1 : Int) != (n1 : Int)) = false := by simp
    go_enter Tryd.func34, Tryd.ntmps34
    go_wp2
    go_loopw [13] (fun i wr => ∃ k : Nat, k ≤ n1 ∧ i = .int .i64 k ∧ Hid (xs.take k = ys.take k) ∧ ∃ q, wr = w.drewN q) (fun i _ => n1 - (intOf i).toNat)
    case atStart => exact ⟨0, Nat.zero_le _, rfl, rfl, 0, rfl⟩
    case round =>
      obtain ⟨k, hk, rfl, hp, q, rfl⟩ := hrel
      by_cases hlt : k < n1
      · obtain ⟨b1, o1, rfl, hc1⟩ := H1.out.bat hlt
        obtain ⟨b2, o2, rfl, hc2⟩ := H2.out.bat hlt
        have g1 := hc1 k (by rw [HX.out]; exact hlt)
        have g2 := hc2 k (by rw [HY.out]; exact hlt)
        have i0 : (0 : Int) ≤ (k : Int) := by omega
        have i1 : (k : Int) < (n1 : Int) := by omega
        have HT1 := Lib.hid (List.take_succ_eq_append_getElem (l := xs) (i := k) (by rw [HX.out]; exact hlt))
        have HT2 := Lib.hid (List.take_succ_eq_append_getElem (l := ys) (i := k) (by rw [HY.out]; exact hlt))
        clear hc1 hc2
        by_cases he : xs[k]'(by rw [HX.out]; exact hlt) = ys[k]'(by rw [HY.out]; exact hlt)
        · have hb : (ub (xs[k]'(by rw [HX.out]; exact hlt)) != ub (ys[k]'(by rw [HY.out]; exact hlt))) = false := by rw [ub_bne, he]; simp
          have HE := Lib.hid he
          clear he
          go_wp2
          go_quiet (fail)
          go_wp2
          have HP2 : Hid (xs.take (k + 1) = ys.take (k + 1)) := by show _ = _; rw [HT1.out, HT2.out, hp.out, HE.out]
          refine ⟨⟨k + 1, by omega, by go_num, HP2, q + nq, by first | rfl | rw [World.drewN_drewN]⟩, by simp [intOf]; omega⟩
        · have hb : (ub (xs[k]'(by rw [HX.out]; exact hlt)) != ub (ys[k]'(by rw [HY.out]; exact hlt))) = true := by rw [ub_bne]; simpa using he
          have hdec : Hid (decide (xs = ys) = false) := by
            show _ = _
            rw [decide_eq_false_iff_not]
            rintro rfl
            exact he rfl
          clear he
          go_wp2
          go_quiet (fail)
          go_wp2
          go_ret
          refine ⟨by rw [hdec.out]; rfl, ?_⟩
          rw [World.drewN_drewN]
          exact drewN_below w _
      · obtain rfl : n1 = k := by omega
        have hdec : Hid (decide (xs = ys) = true) := by
          show _ = _
          rw [decide_eq_true_iff]
          have := hp.out
          rwa [List.take_of_length_le (by rw [HX.out]; omega), List.take_of_length_le (by rw [HY.out]; omega)] at this
        go_wp2
        go_ret
        exact ⟨by rw [hdec.out]; rfl, drewN_below w _⟩
  · have hb : ((n1 : Int) != (n2 : Int)) = true := by rw [bne_iff_ne]; omega
    have hdec : Hid (decide (xs = ys) = false) := by
      show _ = _
      rw [decide_eq_false_iff_not]
      rintro rfl
      exact hne (hx.symm.trans hy)
    clear h1 h2 hx hy hne
    go_enter Tryd.func34, Tryd.ntmps34
    go_wp2
    go_ret
    exact ⟨by rw [hdec.out]; rfl, Below.refl _ _⟩

theorem same4_yes (a1 a2 : Option Addr) (n1 c1 n2 c2 : Nat) (l : List UInt8) (w : World) (h1 : Bs w a1 n1 c1 l) (h2 : Bs w a2 n2 c2 l) :
    Calls Tryd.prog 34 #[.slice a1 n1 c1, .slice a2 n2 c2] w fun e w' => e = .returned (.bool true) ∧ Below w.heap.size w w' := by
  have := same4_any a1 a2 n1 c1 n2 c2 l l w h1 h2
  simpa using this

set_option maxRecDepth 100000 in
set_option maxHeartbeats 1000000 in
theorem signRoots_walk (a : Option Addr) (n c : Nat) (l : List UInt8) (w : World) (h : Bs w a n c l) (hn : n ≤ 140737488351232) (hK : KAt w) (hK1 : KAt1 w) :
    Calls Tryd.prog 8 #[.slice a n c] w fun e w' => e = .returned (.bool true) ∧ Below w.heap.size w w' := by
  have HL := Lib.hid h.blen
  have H := Lib.hid h
  have HK := Lib.hid hK
  have HK1 := Lib.hid hK1
  clear h hK hK1
  go_enter Tryd.func8, Tryd.ntmps8
  go_wp2_with (fail)
  refine (root_any 0 a n c l w H.out (Nat.zero_le _) HK.out).mono ?_
  rintro e w1 ⟨a1, n1, d1, rfl, hb1, hp1⟩
  have HB1 := Lib.hid hb1
  have HP1 := Lib.hid hp1
  have hn1 : n1 = 32 := by rw [← hp1.bs.blen, rootOf_length]
  subst hn1
  have hT := row0_below w1
  have HR := row0_own w1
  have HS1 := Lib.hid ((H.out.below hb1).below hT.out)
  have hb : Hid (([] : List UInt8).length + n ≤ 140737488355328) := by show 0 + n ≤ _; omega
  clear hb1 hp1
  go_wp2_with (at_builtin; refine app_b (w0 := w1) rfl (.tmp 7) (.tmp 8) rfl _ _ rfl HR hT _ _ _ _ rfl HS1 hb ?_; intro v2 w2 HO2 HB2; obtain ⟨a2, c2, rfl, hs2⟩ := own_sl HO2.out; have HS2 := Lib.hid hs2; clear hs2)
  have HB2w := Lib.hid (below_then HB1.out HB1.out.size HB2.out)
  refine (root_any 0 a2 _ c2 ([] ++ l) w2 HS2.out (Nat.zero_le _) (HK.out.below HK.out.pos HB2w.out)).mono ?_
  rintro e w3 ⟨a3, n3, d3, rfl, hb3, hp3⟩
  have HB3 := Lib.hid (below_then HB2w.out HB2w.out.size hb3)
  have HP3 : Hid (Pt w3 0 (.slice a3 n3 d3) (rootOf l)) := hp3
  have HP13 := Lib.hid ((HP1.out.below HB2.out).below hb3)
  clear hb3 hp3 HO2 HS2
  go_wp2_with (fail)
  refine (same4_yes _ _ _ _ _ _ (rootOf l) w3 HP13.out.bs HP3.out.bs).mono ?_
  rintro e w4 ⟨rfl, hb4⟩
  have HB4 := Lib.hid (below_then HB3.out HB3.out.size hb4)
  have HP14 := Lib.hid (HP13.out.below hb4)
  clear hb4
  go_wp2_with (fail)
  refine (rroot_any 0 a n c l w4 (H.out.below HB4.out) (Nat.zero_le _) (HK1.out.below HK1.out.pos HB4.out)).mono ?_
  rintro e w5 ⟨a5, n5, d5, rfl, hb5, hp5⟩
  have HB5 := Lib.hid (below_then HB4.out HB4.out.size hb5)
  go_wp2_with (fail)
  refine (same4_yes _ _ _ _ _ _ (rootOf l) w5 (HP14.out.below hb5).bs hp5.bs).mono ?_
  rintro e w6 ⟨rfl, hb6⟩
  have HB6 := Lib.hid (below_then HB5.out HB5.out.size hb6)
  go_wp2_with (fail)
  go_ret
  exact ⟨rfl, HB6.out⟩
end Go.Proofs.YteceagldjnfeeaaDoor
