/- The walks of isthmusref04.Verify. -/
import Derived.Test.YteceagldjnfeeaaDoorSgv
namespace Go.Proofs.YteceagldjnfeeaaDoor
open Go.RowKit
set_option linter.unusedVariables false
set_option linter.unusedSimpArgs false

theorem rverify_not (v2 : Value) (ar a : Option Addr) (nr cr n c : Nat) (key : Int) (w : World) (h : n ≠ 672 ∨ key < 0 ∨ 8 ≤ key ∨ nr ≠ 32) :
    Calls Tryd.prog 49 #[.slice ar nr cr, .int .i64 key, v2, .slice a n c] w fun e w' => e = .returned (.bool false) ∧ w = w' := by
  by_cases hn : n = 672
  · subst hn
    by_cases hk : key < 0
    · clear h
      go_enter Tryd.func49, Tryd.ntmps49
      go_wp2
      go_ret
      exact ⟨rfl, rfl⟩
    · by_cases hk8 : 8 ≤ key
      · clear h
        go_enter Tryd.func49, Tryd.ntmps49
        go_wp2
        go_ret
        exact ⟨rfl, rfl⟩
      · have hr : nr ≠ 32 := by omega
        have hb : ((nr : Int) != 32) = true := by rw [bne_iff_ne]; omega
        have h0 : 0 ≤ key := by omega
        have h8 : key < 8 := by omega
        clear h hr hk hk8
        go_enter Tryd.func49, Tryd.ntmps49
        go_wp2
        go_ret
        exact ⟨rfl, rfl⟩
  · have hb : ((n : Int) != 672) = true := by rw [bne_iff_ne]; omega
    have hb2 : ((n : Int) == 672) = false := by rw [beq_eq_false_iff_ne]; omega
    clear h hn
    go_enter Tryd.func49, Tryd.ntmps49
    go_wp2
    go_ret
    exact ⟨rfl, rfl⟩

set_option maxRecDepth 100000 in
set_option maxHeartbeats 4000000 in
theorem rverify_any (ar am asl : Option Addr) (cr nm cm cs : Nat) (root msg sig : List UInt8) (key : Nat) (w : World) (hr : Bs w ar 32 cr root) (hm : Bs w am nm cm msg) (hs : Bs w asl 672 cs sig) (hk : key < 8) (hK : KAt1 w) :
    Calls Tryd.prog 49 #[.slice ar 32 cr, .int .i64 key, .slice am nm cm, .slice asl 672 cs] w fun e w' => e = .returned (.bool (verifyOf root key msg sig)) ∧ Below w.heap.size w w' := by
  obtain ⟨bs, os, rfl, _⟩ := hs.bat (j := 0) (by omega)
  have hcs : 672 ≤ cs := hs.cap
  have HRL := Lib.hid hr.blen
  have HR : Hid (Pt w w.heap.size (.slice ar 32 cr) root) := Pt.arg hr (Nat.le_refl _)
  have HM : Hid (Pt w w.heap.size (.slice am nm cm) msg) := Pt.arg hm (Nat.le_refl _)
  have HS : Hid (Pt w w.heap.size (.slice (some ⟨bs, os, none⟩) 672 cs) sig) := Pt.arg hs (Nat.le_refl _)
  have HK := Lib.hid hK
  have i0 : (0 : Int) ≤ (key : Int) := by omega
  have i8 : (key : Int) < 8 := by omega
  clear hr hm hs hK
  go_enter Tryd.func49, Tryd.ntmps49
  go_wp2_with (fail)
  refine (rdigits_any _ _ _ _ _ _ _ root msg key w HR.out HM.out (by omega) HK.out).mono ?_
  rintro e w2 ⟨a2, d2, rfl, hb2, hs2⟩
  have HB2 := Lib.hid hb2
  have HS2 := Lib.hid hs2
  have HDE : Hid (verifyOf root key msg sig = decide (climb key (fun l => pieceOf sig (18 + l)) 3 (leafOf key ((List.range 18).map fun c => chain c (digitAt (digits root key msg) c) (15 - digitAt (digits root key msg) c) (pieceOf sig c))) = root)) := rfl
  have HDL := Lib.hid (digits_length root key msg)
  have HDM : Hid (∀ c, digitAt (digits root key msg) c ≤ 15) := fun c => digitAt_le _ _ _ c
  clear hb2 hs2
  generalize digits root key msg = ds at HDE HDL HDM HS2
  obtain ⟨G, hG⟩ : ∃ G : Nat → List UInt8, G = fun c => chain c (digitAt ds c) (15 - digitAt ds c) (pieceOf sig c) := ⟨_, rfl⟩
  rw [← hG] at HDE
  have HG : ∀ j, Hid (G j = chain j (digitAt ds j) (15 - digitAt ds j) (pieceOf sig j)) := fun j => by subst hG; rfl
  clear hG
  go_wp2_with (fail)
  go_loopw [9, 37] (fun x i wr => ∃ (k : Nat) (vs : List Value), k ≤ 18 ∧ i = .int .i64 k ∧ Hid (Below w2.heap.size w2 wr) ∧ Hid (Lst w2.heap.size w.heap.size wr x vs ((List.range k).map G))) (fun _ i _ => 18 - (intOf i).toNat)
  case atStart => exact ⟨0, [], by omega, rfl, Below.refl _ _, Lst.nil _ _ _⟩
  case round =>
    obtain ⟨k, vs, hk18, rfl, HB, HL⟩ := hrel
    have HBW := Lib.hid (below_then HB2.out HB2.out.size HB.out)
    by_cases hlt : k < 18
    · obtain ⟨b, o, rfl, hc⟩ := (HS2.out.below HB.out).at (j := k) hlt
      have g1 := hc k (by rw [nums_length, HDL.out]; exact hlt)
      have e1 : (nums ds)[k]'(by rw [nums_length, HDL.out]; exact hlt) = .int .i64 ((digitAt ds k : Nat) : Int) := by
        simp only [nums, List.getElem_map]
        rw [digitAt, List.getD_eq_getElem?_getD, List.getElem?_eq_getElem (by rw [HDL.out]; exact hlt)]; rfl
      rw [e1] at g1
      have j0 : (0 : Int) ≤ (k : Int) := by omega
      have j1 : (k : Int) < 18 := by omega
      have hd15 := HDM.out k
      have HE := HG k
      have hsl := fun wx => run_sl22 wx bs os 672 cs (32 * (k : Int)) (32 * (k : Int) + 32) (32 * k) 32 (by omega) (by omega) (by omega) (by omega)
      have HQ : Hid (Pt wr w.heap.size (.slice (some ⟨bs, os + 32 * k, none⟩) 32 (cs - 32 * k)) (pieceOf sig k)) := piece_pt (HS.out.below HBW.out) k (by omega)
      have hlen : Hid (((List.range k).map G).length ≤ 1000000) := by show _ ≤ _; rw [List.length_map, List.length_range]; omega
      clear hc e1
      generalize digitAt ds k = dk at g1 hd15 HE
      go_wp2_with (fail)
      clear hsl
      refine (along_any w.heap.size _ _ _ (pieceOf sig k) k dk 15 wr HQ.out (by omega) (by omega) (by omega) (HK.out.below HK.out.pos HBW.out)).mono ?_
      rintro e w6 ⟨a6, n6, d6, rfl, hb6, hp6⟩
      have HB6 := Lib.hid (below_then HB.out HB.out.size hb6)
      have HL6 := Lib.hid (HL.out.below hb6)
      have HP6 : Hid (Pt w6 w.heap.size (.slice a6 n6 d6) (G k)) := by show Pt _ _ _ _; rw [HE.out]; exact hp6
      have hC2 : w.heap.size ≤ w2.heap.size := HB2.out.size
      clear hb6 hp6
      go_wp2_with (at_builtin; refine app_s (w0 := w2) rfl (.tmp 42) (.tmp 53) rfl _ _ _ rfl HL6 HB6 _ _ rfl HP6 hC2 hlen ?_; intro v7 w7 HL7 HB7)
      have HL8 : Hid (Lst w2.heap.size w.heap.size w7 v7 (vs ++ [.slice a6 n6 d6]) ((List.range (k + 1)).map G)) := by
        show Lst _ _ _ _ _ _
        rw [range_map_succ]
        exact HL7.out
      exact ⟨⟨k + 1, _, by omega, by go_num, HB7, HL8⟩, by simp [intOf]; omega⟩
    · obtain rfl : k = 18 := by omega
      obtain ⟨a5, d5, rfl, hs5⟩ := HL.out.sl
      have hel : ((List.range 18).map G).length = 18 := by rw [List.length_map, List.length_range]
      have HPP := Lib.hid HL.out.pts
      have HEG : Hid ((List.range 18).map G = (List.range 18).map G) := rfl
      rw [hel] at hs5 ⊢
      have HS5 := Lib.hid hs5
      clear hs5 hel HL HEG
      generalize (List.range 18).map G = ends at HPP HDE
      go_wp2_with (fail)
      refine (rleaf_any w.heap.size _ _ _ _ _ key wr HS5.out HPP.out (by omega) (by omega) (HK.out.below HK.out.pos HBW.out)).mono ?_
      rintro e w4 ⟨a4, n4, d4, rfl, hb4, hp4⟩
      have HB4 := Lib.hid (below_then HBW.out HBW.out.size hb4)
      have HX4 := Lib.hid hp4
      clear hb4 hp4 HPP HS5 HB HBW
      generalize leafOf key ends = lf at HX4 HDE
      go_wp2_with (fail)
      go_loopw [12, 13] (fun x i wr => ∃ k : Nat, ∃ ax nx dx, k ≤ 3 ∧ i = .int .i64 k ∧ x = .slice ax nx dx ∧ Hid (Below w.heap.size w wr) ∧ Hid (Pt wr w.heap.size (.slice ax nx dx) (climb key (fun l => pieceOf sig (18 + l)) k lf)) ∧ (0 < k → Hid (nx = 32))) (fun _ i _ => 3 - (intOf i).toNat)
      case atStart => exact ⟨0, _, _, _, by omega, rfl, rfl, HB4, HX4, fun h => absurd h (by omega)⟩
      case round =>
        clear HX4
        obtain ⟨k, ax, nx, dx, hk3, rfl, rfl, HBW, HX, hnx⟩ := hrel
        by_cases hlt : k < 3
        · have hcl : climb key (fun l => pieceOf sig (18 + l)) (k + 1) lf = if key / 2 ^ k % 2 = 0 then node (climb key (fun l => pieceOf sig (18 + l)) k lf) (pieceOf sig (18 + k)) else node (pieceOf sig (18 + k)) (climb key (fun l => pieceOf sig (18 + l)) k lf) := rfl
          have HCL := Lib.hid hcl
          have hy : (key : Int) / 2 ^ k = ((key / 2 ^ k : Nat) : Int) := by simp
          have h8 : key / 2 ^ k < 8 := Nat.lt_of_le_of_lt (Nat.div_le_self _ _) hk
          have j0 : (0 : Int) ≤ (k : Int) := by omega
          have j1 : (k : Int) < 3 := by omega
          have hsl := fun wx => run_sl22 wx bs os 672 cs (32 * (18 + (k : Int))) (32 * (18 + (k : Int)) + 32) (32 * (18 + k)) 32 (by omega) (by omega) (by omega) (by omega)
          have HQ : Hid (Pt wr w.heap.size (.slice (some ⟨bs, os + 32 * (18 + k), none⟩) 32 (cs - 32 * (18 + k))) (pieceOf sig (18 + k))) := piece_pt (HS.out.below HBW.out) (18 + k) (by omega)
          clear hcl hnx
          generalize climb key (fun l => pieceOf sig (18 + l)) k lf = cl at HX HCL
          generalize key / 2 ^ k = y at hy h8 HCL
          have hand : bits .and .i64 (y : Int) 1 = ((y % 2 : Nat) : Int) := by
            have : y = 0 ∨ y = 1 ∨ y = 2 ∨ y = 3 ∨ y = 4 ∨ y = 5 ∨ y = 6 ∨ y = 7 := by omega
            rcases this with rfl | rfl | rfl | rfl | rfl | rfl | rfl | rfl <;> rfl
          by_cases hev : y % 2 = 0
          · rw [hev] at hand
            have HCE : Hid (climb key (fun l => pieceOf sig (18 + l)) (k + 1) lf = node cl (pieceOf sig (18 + k))) := by show _ = _; rw [HCL.out, if_pos hev]
            clear HCL hev
            go_wp2_with (fail)
            clear hsl
            refine (rtagged_row (D := w.heap.size) w.heap.size wNode _ 2 [cl, pieceOf sig (18 + k)] wr (by decide) rfl (by omega) (.cons HX.out (.cons HQ.out .nil)) (HK.out.below HK.out.pos HBW.out)).mono ?_
            rintro e w6 ⟨a6, n6, d6, rfl, hb6, hp6⟩
            have HB6 := Lib.hid (below_then HBW.out HBW.out.size hb6)
            have hn6 : Hid (n6 = 32) := by show _ = _; rw [← hp6.bs.blen]; exact node_length _ _
            have HX6 : Hid (Pt w6 w.heap.size (.slice a6 n6 d6) (climb key (fun l => pieceOf sig (18 + l)) (k + 1) lf)) := by
              show Pt _ _ _ _
              rw [HCE.out]; exact hp6
            clear hb6 hp6
            go_wp2_with (fail)
            exact ⟨⟨k + 1, _, _, _, by omega, by go_num, rfl, HB6, HX6, fun _ => hn6⟩, by simp [intOf]; omega⟩
          · obtain hev1 : y % 2 = 1 := by omega
            rw [hev1] at hand
            have HCE : Hid (climb key (fun l => pieceOf sig (18 + l)) (k + 1) lf = node (pieceOf sig (18 + k)) cl) := by show _ = _; rw [HCL.out, if_neg hev]
            clear HCL hev hev1
            go_wp2_with (fail)
            clear hsl
            refine (rtagged_row (D := w.heap.size) w.heap.size wNode _ 2 [pieceOf sig (18 + k), cl] wr (by decide) rfl (by omega) (.cons HQ.out (.cons HX.out .nil)) (HK.out.below HK.out.pos HBW.out)).mono ?_
            rintro e w6 ⟨a6, n6, d6, rfl, hb6, hp6⟩
            have HB6 := Lib.hid (below_then HBW.out HBW.out.size hb6)
            have hn6 : Hid (n6 = 32) := by show _ = _; rw [← hp6.bs.blen]; exact node_length _ _
            have HX6 : Hid (Pt w6 w.heap.size (.slice a6 n6 d6) (climb key (fun l => pieceOf sig (18 + l)) (k + 1) lf)) := by
              show Pt _ _ _ _
              rw [HCE.out]; exact hp6
            clear hb6 hp6
            go_wp2_with (fail)
            exact ⟨⟨k + 1, _, _, _, by omega, by go_num, rfl, HB6, HX6, fun _ => hn6⟩, by simp [intOf]; omega⟩
        · obtain rfl : k = 3 := by omega
          have i3 : ¬ ((3 : Nat) : Int) < 3 := by omega
          have hnx32 := (hnx (by omega)).out
          subst hnx32
          have HRW := Lib.hid (HR.out.below HBW.out).bs
          have HXB := Lib.hid HX.out.bs
          have HXL := Lib.hid HX.out.bs.blen
          clear hnx HX HB4
          generalize climb key (fun l => pieceOf sig (18 + l)) 3 lf = hh at HXB HXL HDE
          obtain ⟨wo, hwo⟩ : ∃ wo : World, wo = wr := ⟨_, rfl⟩
          rw [← hwo] at HBW HRW HXB ⊢
          clear hwo
          go_wp2_with (fail)
          go_loopw [15] (fun i wr => ∃ k : Nat, k ≤ 32 ∧ i = .int .i64 k ∧ Hid (hh.take k = root.take k) ∧ ∃ q, wr = wo.drewN q) (fun i _ => 32 - (intOf i).toNat)
          case atStart => exact ⟨0, by omega, rfl, rfl, 0, rfl⟩
          case round =>
            obtain ⟨k, hk32, rfl, hp, q, rfl⟩ := hrel
            by_cases hlt3 : k < 32
            · obtain ⟨b1, o1, rfl, hc1⟩ := HXB.out.bat hlt3
              obtain ⟨b2, o2, rfl, hc2⟩ := HRW.out.bat hlt3
              have g1 := hc1 k (by rw [HXL.out]; exact hlt3)
              have g2 := hc2 k (by rw [HRL.out]; exact hlt3)
              have j0 : (0 : Int) ≤ (k : Int) := by omega
              have j1 : (k : Int) < 32 := by omega
              have HT1 := Lib.hid (List.take_succ_eq_append_getElem (l := hh) (i := k) (by rw [HXL.out]; exact hlt3))
              have HT2 := Lib.hid (List.take_succ_eq_append_getElem (l := root) (i := k) (by rw [HRL.out]; exact hlt3))
              clear hc1 hc2
              by_cases he : hh[k]'(by rw [HXL.out]; exact hlt3) = root[k]'(by rw [HRL.out]; exact hlt3)
              · have hb : (ub (hh[k]'(by rw [HXL.out]; exact hlt3)) != ub (root[k]'(by rw [HRL.out]; exact hlt3))) = false := by rw [ub_bne, he]; simp
                have HE := Lib.hid he
                clear he
                go_wp2
                go_quiet (fail)
                go_wp2
                have HP2 : Hid (hh.take (k + 1) = root.take (k + 1)) := by show _ = _; rw [HT1.out, HT2.out, hp.out, HE.out]
                refine ⟨⟨k + 1, by omega, by go_num, HP2, q + nq, by first | rfl | rw [World.drewN_drewN]⟩, by simp [intOf]; omega⟩
              · have hb : (ub (hh[k]'(by rw [HXL.out]; exact hlt3)) != ub (root[k]'(by rw [HRL.out]; exact hlt3))) = true := by rw [ub_bne]; simpa using he
                have hdec : Hid (verifyOf root key msg sig = false) := by
                  show _ = _
                  rw [HDE.out, decide_eq_false_iff_not]
                  rintro rfl
                  exact he rfl
                clear he
                go_wp2
                go_quiet (fail)
                go_wp2
                go_ret
                refine ⟨by rw [hdec.out]; rfl, ?_⟩
                rw [World.drewN_drewN]
                exact below_then HBW.out HBW.out.size (drewN_below wo _)
            · obtain rfl : k = 32 := by omega
              have i32 : ¬ ((32 : Nat) : Int) < 32 := by omega
              have hdec : Hid (verifyOf root key msg sig = true) := by
                show _ = _
                rw [HDE.out, decide_eq_true_iff]
                have := hp.out
                rwa [List.take_of_length_le (by rw [HXL.out]; omega), List.take_of_length_le (by rw [HRL.out]; omega)] at this
              go_wp2
              go_ret
              exact ⟨by rw [hdec.out]; rfl, below_then HBW.out HBW.out.size (drewN_below wo _)⟩
end Go.Proofs.YteceagldjnfeeaaDoor
