/- The walk of isthmuslaw09.fixed. -/
import Derived.Test.YteceagldjnfeeaaDoorSt11
namespace Go.Proofs.YteceagldjnfeeaaDoor
open Go.RowKit Go.Maps
set_option linter.unusedVariables false
set_option linter.unusedSimpArgs false

abbrev ps9 : List KV := [([97], [1]), ([98], [2])]
abbrev es9 : SM Ent := sput (sput [] [99] ([3], false)) [97] ([], true)
theorem ok9 : okTo ps9 ps9.length = true := by decide
theorem lit_row {w : World} {x : UInt8} {N : Int} (D : Nat) (h : ub x = N) : Hid (Pt (w.alloc (.cells #[.int .u8 N] 5)) D (.slice (some ⟨w.heap.size, 0, none⟩) 1 1) [x]) := by
  subst h
  exact Pt.own (B' := w.heap.size) (World.ownsRow_lit w #[.int .u8 (ub x)] 1 (Nat.le_refl _) (by unfold maxLen; omega) rfl)
theorem lit_pairs {w : World} {k1 k2 : List UInt8} {v1 v2 : Value} {l1 l2 : List UInt8} (h1 : Hid (Pt w 0 v1 l1)) (h2 : Hid (Pt w 0 v2 l2)) :
    Hid (Prs (w.alloc (.cells #[str k1, v1, str k2, v2] 45)) 0 (some ⟨w.heap.size, 0, none⟩) 2 2 [(k1, l1), (k2, l2)]) := by
  have hb := (row_below w (.cells #[str k1, v1, str k2, v2] 45)).out
  have hw := (MapKept.heap_alloc w (.cells #[str k1, v1, str k2, v2] 45)).1
  refine ⟨rfl, Nat.le_refl _, by unfold maxLen; omega, fun j hj => ?_⟩
  match j, hj with
  | 0, _ => exact ⟨_, 0, v1, rfl, by rw [cell_of_row _ _ _ _ _ _ hw]; rfl, by rw [cell_of_row _ _ _ _ _ _ hw]; rfl, h1.out.below hb⟩
  | 1, _ => exact ⟨_, 0, v2, rfl, by rw [cell_of_row _ _ _ _ _ _ hw]; rfl, by rw [cell_of_row _ _ _ _ _ _ hw]; rfl, h2.out.below hb⟩
theorem len9 : ∀ e ∈ newOf ps9, e.1.length ≤ maxLen := by unfold maxLen; decide
theorem len9' : ∀ e ∈ sover (newOf ps9) es9, e.1.length ≤ maxLen := by unfold maxLen; decide
theorem got9 {r : SM Ent} (h : Written (newOf ps9) es9 r) : sget r [99] = some ([3], false) ∧ sget r [97] = none := ⟨by rw [h.2]; decide, by rw [h.2]; decide⟩
theorem below_turn2 {w w1 w2 : World} {g g2 : Nat} (h : Below w.heap.size w w1) (k : Grown2 w1 w2 g g2) (hg : w.heap.size ≤ g) (hg2 : w.heap.size ≤ g2) : Below w.heap.size w w2 :=
  ⟨k.os.trans h.os, k.tape.trans h.tape, k.output.trans h.output, Nat.le_trans h.size k.size, fun i hi => (k.block i (Nat.lt_of_lt_of_le hi h.size) (by omega) (by omega)).trans (h.block i hi)⟩
set_option maxRecDepth 100000 in
set_option maxHeartbeats 16000000 in
theorem fixed9_any (w : World) : Calls Tryd.prog 36 #[] w fun e w' => e = .returned (.bool true) ∧ Below w.heap.size w w' := by
  have L1 := lit_row (w := w) (x := 1) (N := 1) 0 rfl
  have L2 := lit_row (w := w.alloc (.cells #[.int .u8 1] 5)) (x := 2) (N := 2) 0 rfl
  have L3 := lit_pairs (k1 := [97]) (k2 := [98]) (Lib.hid (L1.out.below (row_below _ (.cells #[.int .u8 2] 5)).out)) L2
  have e1 : (w.alloc (.cells #[.int .u8 1] 5)).heap.size = w.heap.size + 1 := by simp
  have e2 : ((w.alloc (.cells #[.int .u8 1] 5)).alloc (.cells #[.int .u8 2] 5)).heap.size = w.heap.size + 1 + 1 := by simp
  rw [e1, e2] at L3
  have HB0 : Hid (Below w.heap.size w (((w.alloc (.cells #[.int .u8 1] 5)).alloc (.cells #[.int .u8 2] 5)).alloc (.cells #[str [97], .slice (some ⟨w.heap.size, 0, none⟩) 1 1, str [98], .slice (some ⟨w.heap.size + 1, 0, none⟩) 1 1] 45))) := hid_row (hid_row (row_below w _) _) _
  clear L1 L2 e1 e2
  go_enter Tryd.func36, Tryd.ntmps36
  go_wp2_with (fail)
  change Calls Tryd.prog 37 _ (((w.alloc (.cells #[.int .u8 1] 5)).alloc (.cells #[.int .u8 2] 5)).alloc (.cells #[str [97], .slice (some ⟨w.heap.size, 0, none⟩) 1 1, str [98], .slice (some ⟨w.heap.size + 1, 0, none⟩) 1 1] 45)) _
  generalize ((w.alloc (.cells #[.int .u8 1] 5)).alloc (.cells #[.int .u8 2] 5)).alloc (.cells #[str [97], .slice (some ⟨w.heap.size, 0, none⟩) 1 1, str [98], .slice (some ⟨w.heap.size + 1, 0, none⟩) 1 1] 45) = w1 at L3 HB0 ⊢
  refine (new_any _ 2 2 ps9 w1 L3.out).mono ?_
  rintro e w2 ⟨h, _⟩
  obtain ⟨p, b, rfl, hs, hb, hp1, hb1⟩ := h ok9
  generalize hBB : w1.heap.size = B at hs hb hp1 hb1
  have HB2 := Lib.hid (below_then HB0.out HB0.out.size (by rw [hBB]; exact hb))
  have HBs : Hid (B ≤ w2.heap.size) := by rw [← hBB]; exact hb.size
  have HBb : Hid (w.heap.size ≤ b) := by have := HB0.out.size; show _ ≤ _; omega
  have HS2 := Lib.hid hs
  clear hs hb hp1 hb1 hBB L3 HB0
  go_wp2_with (fail)
  refine (branch_any B p b none (newOf ps9) w2 HS2.out).mono ?_
  rintro e w3 ⟨p', b', rfl, hs', hb', hp', hbb'⟩
  have HS3 := Lib.hid (HS2.out.below hb')
  have HT3 := Lib.hid hs'
  have HB3 := Lib.hid (below_then HB2.out HB2.out.size hb')
  have HNE : Hid (b ≠ b') := by show ¬ _; have := HS2.out.own.lt; omega
  have HBb' : Hid (w.heap.size ≤ b') := by have := HB2.out.size; show _ ≤ _; omega
  have HBs3 : Hid (B ≤ w3.heap.size) := Nat.le_trans HBs.out hb'.size
  clear hs' hb' hp' hbb'
  have LS := lit_row (w := w3) (x := 3) (N := 3) 0 rfl
  have HX := row_below w3 (.cells #[.int .u8 3] 5)
  have HT4 := Lib.hid (HT3.out.below HX.out)
  have HS4 := Lib.hid (HS3.out.below HX.out)
  have HB4 := Lib.hid (below_then HB3.out HB3.out.size HX.out)
  have HBs4 : Hid (B ≤ (w3.alloc (.cells #[.int .u8 3] 5)).heap.size) := Nat.le_trans HBs3.out HX.out.size
  go_wp2_with (fail)
  generalize w3.alloc (.cells #[.int .u8 3] 5) = w4 at LS HT4 HS4 HB4 HBs4 ⊢
  refine (set_any (D := 0) B p' b' (some ⟨p, 0, none⟩) [] [99] [3] _ 1 1 w4 HT4.out LS.out HBs4.out (by decide)).mono ?_
  rintro e w5 ⟨rfl, h5, _⟩
  obtain ⟨ht5, hg5⟩ := h5 (by decide)
  have HT5 := Lib.hid ht5
  have HS5 := Lib.hid (HS4.out.keptM hg5 HNE.out HT4.out.own.blk)
  have HB5 := Lib.hid (below_turn HB4.out hg5 HBb'.out)
  have HBs5 : Hid (B ≤ w5.heap.size) := Nat.le_trans HBs4.out hg5.size
  have hc1 : setC [99] [3] = 0 := by decide
  rw [hc1]
  clear ht5 hg5 h5 hc1 LS HX HT4 HS4 HT3 HS3 HB3 HB2 HS2
  go_wp2_with (fail)
  refine (set_any (D := 0) B p' b' (some ⟨p, 0, none⟩) (sput [] [99] ([3], false)) [] [] none 0 0 w5 HT5.out (Pt.zero w5 0) HBs5.out (by decide)).mono ?_
  rintro e w6 ⟨rfl, _, h6⟩
  obtain rfl := h6 (by decide)
  have hc2 : setC [] [] = 60 := by decide
  rw [hc2]
  clear h6 hc2
  go_wp2_with (fail)
  refine (del_any B p' b' (some ⟨p, 0, none⟩) (sput [] [99] ([3], false)) [97] _ HT5.out (by unfold maxLen; decide) (by decide)).mono ?_
  rintro e w7 ⟨rfl, ht7, hg7⟩
  have HT7 : Hid (Sto B w7 p' (some ⟨p, 0, none⟩) b' es9) := ht7
  have HS7 := Lib.hid (HS5.out.keptM hg7 HNE.out HT5.out.own.blk)
  have HB7 := Lib.hid (below_turn HB5.out hg7 HBb'.out)
  clear ht7 hg7 HT5 HS5 HB5 HBs5 HB4 HBs4 HBs3
  go_wp2_with (fail)
  refine (pairs_any B p (newOf ps9) [] w7 len9 (by decide) (seen_own B p b (newOf ps9) w7 HS7.out)).mono ?_
  rintro e w8 ⟨v8, rfl, ho8, hb8⟩
  obtain ⟨a8, c8, rfl, hp8⟩ := ho8.ownP.prs
  have hl8 : (pairsOf (newOf ps9) []).length = 2 := by decide
  rw [hl8]
  have HT8 := Lib.hid (HT7.out.below hb8)
  have HS8 := Lib.hid (HS7.out.below hb8)
  have HB8 := Lib.hid (below_then HB7.out HB7.out.size hb8)
  clear ho8 hb8 hp8 hl8 HT7 HS7 HB7
  go_wp2_with (fail)
  refine (pairs_any B p' (sover (newOf ps9) es9) [] w8 len9' (by decide) (seen_over B p b p' b' (newOf ps9) es9 w8 HS8.out HT8.out (by decide))).mono ?_
  rintro e w9 ⟨v9, rfl, ho9, hb9⟩
  obtain ⟨a9, c9, rfl, hp9⟩ := ho9.ownP.prs
  have hl9 : (pairsOf (sover (newOf ps9) es9) []).length = 2 := by decide
  rw [hl9]
  have HT9 := Lib.hid (HT8.out.below hb9)
  have HS9 := Lib.hid (HS8.out.below hb9)
  have HB9 := Lib.hid (below_then HB8.out HB8.out.size hb9)
  clear ho9 hb9 hp9 hl9 HT8 HS8 HB8
  go_wp2_with (fail)
  refine (pairs_any B p' (sover (newOf ps9) es9) [] w9 len9' (by decide) (seen_over B p b p' b' (newOf ps9) es9 w9 HS9.out HT9.out (by decide))).mono ?_
  rintro e w10 ⟨v10, rfl, ho10, hb10⟩
  obtain ⟨a10, c10, rfl, hp10⟩ := ho10.ownP.prs
  have hq10 : pairsOf (sover (newOf ps9) es9) [] = [([98], [2]), ([99], [3])] := by decide
  rw [hq10] at hp10 ⊢
  obtain ⟨b10, o10, va10, rfl, k10, _, _⟩ := hp10.cells 1 (by decide)
  have k11 : w10.cell? ⟨b10, o10 + 2, none⟩ = some (.string ⟨#[99]⟩) := k10
  have HT10 := Lib.hid (HT9.out.below hb10)
  have HS10 := Lib.hid (HS9.out.below hb10)
  have HB10 := Lib.hid (below_then HB9.out HB9.out.size hb10)
  clear ho10 hb10 hp10 hq10 k10 HT9 HS9 HB9
  go_wp2_with (fail)
  refine (write_any B p b p' b' (newOf ps9) es9 w10 HS10.out HT10.out HNE.out (by decide)).mono ?_
  rintro e w11 ⟨rfl, r, hw, hrl, hs11, ht11, hg11⟩
  obtain ⟨r1, r2⟩ := got9 hw
  have HS11 := Lib.hid hs11
  have HB11 := Lib.hid (below_turn2 HB10.out hg11 HBb.out HBb'.out)
  clear hs11 ht11 hg11 hw hrl k11 HT10 HS10 HB10
  go_wp2_with (fail)
  refine (get_any B p b r [99] w11 HS11.out (by unfold maxLen; decide)).mono ?_
  rintro e w12 ⟨v12, rfl, hb12, ho12⟩
  rw [r1] at ho12 ⊢
  obtain ⟨a12, c12, rfl, hs12⟩ := own_sl ho12
  have hs12' : Bs w12 a12 1 c12 [3] := hs12
  obtain ⟨b12, o12, rfl, hc12⟩ := hs12'.bat (j := 0) (by decide)
  have k12 : w12.cell? ⟨b12, o12, none⟩ = some (.int .u8 3) := hc12 0 (by decide)
  have HS12 := Lib.hid (HS11.out.below hb12)
  have HB12 := Lib.hid (below_then HB11.out HB11.out.size hb12)
  clear ho12 hs12 hs12' hc12 HS11 HB11
  have K12 := Lib.hid k12
  clear k12
  go_wp2_with (fail)
  refine (get_any B p b r [97] w12 HS12.out (by unfold maxLen; decide)).mono ?_
  rintro e w13 ⟨v13, rfl, hb13, ho13⟩
  rw [r2]
  have k13 : w13.cell? ⟨b12, o12, none⟩ = some (.int .u8 3) := below_cell hb13 K12.out
  have HB13 := Lib.hid (below_then HB12.out HB12.out.size hb13)
  clear ho13 hb13 HS12 HB12
  have ok1 : okE (some (([3], false) : Ent)) = true := rfl
  have ok2 : okE none = false := rfl
  have vl : (vE (some (([3], false) : Ent))).length = 1 := rfl
  rw [ok1, ok2, vl]
  go_wp2_with (fail)
  go_ret
  exact ⟨rfl, HB13.out⟩
end Go.Proofs.YteceagldjnfeeaaDoor
