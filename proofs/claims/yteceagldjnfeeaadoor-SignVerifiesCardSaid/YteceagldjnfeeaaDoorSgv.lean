/- The walks of sign.Verify. -/
import Derived.Test.YteceagldjnfeeaaDoorSgs
import Derived.Test.YteceagldjnfeeaaDoorCv
import Derived.Laws.EntriesVeiled
namespace Go.Proofs.YteceagldjnfeeaaDoor
open Go.RowKit
set_option linter.unusedVariables false
set_option linter.unusedSimpArgs false

set_option maxRecDepth 100000 in
theorem verify1_any (p : Addr) (b o c i : Nat) (w : World) (h : w.cell? p = some (.slice (some ⟨b, o, none⟩) 672 c)) (hi : i < 21) (hc : 672 ≤ c) :
    Calls Tryd.prog 79 #[.int .i64 i, .pointer (some p)] w fun e w' => e = .returned (.slice (some ⟨b, o + 32 * i, none⟩) 32 (c - 32 * i)) ∧ w' = w := by
  have hsl := fun wx => run_sl22 wx b o 672 c ((i : Int) * 32) (((i : Int) + 1) * 32) (32 * i) 32 (by omega) (by omega) (by omega) (by omega)
  have i0 : (0 : Int) ≤ (i : Int) := by omega
  have i1 : (i : Int) < 21 := by omega
  go_enter Tryd.func79, Tryd.ntmps79
  go_wp2
  go_ret
  exact ⟨rfl, rfl⟩

set_option maxRecDepth 100000 in
theorem verify2_any (p0 p1 : Addr) (b o c g j d : Nat) (w : World) (h0 : w.cell? p0 = some (.slice (some ⟨b, o, none⟩) 672 c)) (h1 : w.cell? p1 = some (.func (.func 79) #[] #[.pointer (some p0)])) (h2 : w.cell? ⟨g, j, none⟩ = some (.int .i64 (d : Int))) (hj : j < 18) (hc : 672 ≤ c) :
    Calls Tryd.prog 81 #[.int .i64 j, .pointer (some p1), .pointer (some ⟨g, 0, none⟩)] w fun e w' => e = .returned (.tuple #[.slice (some ⟨b, o + 32 * j, none⟩) 32 (c - 32 * j), .int .i64 (d : Int)]) ∧ ∃ q, w' = w.drewN q := by
  have i0 : (0 : Int) ≤ (j : Int) := by omega
  have i1 : (j : Int) < 18 := by omega
  have H0 := Lib.hid h0
  have hT : ∀ args w, (callFunc 79 args).run Tryd.prog w = .ok (.enter 79 args) w := enters_of Tryd.func79 (by kernel_rfl) rfl
  clear h0
  go_enter Tryd.func81, Tryd.ntmps81
  go_wp2
  go_quiet ((go_at_fn 79; exact Calls.quiet_of_same (verify1_any p0 b o c j _ H0.out (by omega) hc)))
  go_wp2
  go_ret2
  exact ⟨rfl, _, rfl⟩

theorem pieceOf_eq (sig : List UInt8) (i : Nat) : bts (pieceOf sig i) = ((bts sig).drop (32 * i)).take 32 := by
  rw [pieceOf, bts_take, bts_drop]
theorem piece_pt {w : World} {b o c D : Nat} {sig : List UInt8} (h : Pt w D (.slice (some ⟨b, o, none⟩) 672 c) sig) (i : Nat) (hi : i < 21) : Pt w D (.slice (some ⟨b, o + 32 * i, none⟩) 32 (c - 32 * i)) (pieceOf sig i) := by
  obtain ⟨a', n', c', e, hs, hd⟩ := h
  cases e
  refine ⟨_, _, _, rfl, ?_, .inr ?_⟩
  · show Sl _ _ _ _ _
    rw [pieceOf_eq]
    exact hs.piece (32 * i) 32 (by omega)
  · rcases hd with h0 | hd
    · omega
    · rintro ad e
      cases e
      exact hd ⟨b, o, none⟩ rfl
theorem verify_not (v2 : Value) (ar a : Option Addr) (nr cr n c : Nat) (key : Int) (w : World) (h : n ≠ 672 ∨ key < 0 ∨ 8 ≤ key ∨ nr ≠ 32) :
    Calls Tryd.prog 48 #[.slice ar nr cr, .int .i64 key, v2, .slice a n c] w fun e w' => e = .returned (.bool false) ∧ Below w.heap.size w w' := by
  have HB0 := row_below w (.cells #[.slice a n c] 22)
  by_cases hn : n = 672
  · subst hn
    by_cases hk : key < 0
    · clear h
      go_enter Tryd.func48, Tryd.ntmps48
      go_wp2
      go_ret
      exact ⟨rfl, HB0.out⟩
    · by_cases hk8 : 8 ≤ key
      · clear h
        go_enter Tryd.func48, Tryd.ntmps48
        go_wp2
        go_ret
        exact ⟨rfl, HB0.out⟩
      · have hr : nr ≠ 32 := by omega
        have hb : ((nr : Int) != 32) = true := by rw [bne_iff_ne]; omega
        have h0 : 0 ≤ key := by omega
        have h8 : key < 8 := by omega
        clear h hr hk hk8
        go_enter Tryd.func48, Tryd.ntmps48
        go_wp2
        go_ret
        exact ⟨rfl, HB0.out⟩
  · have hb : ((n : Int) != 672) = true := by rw [bne_iff_ne]; omega
    have hb2 : ((n : Int) == 672) = false := by rw [beq_eq_false_iff_ne]; omega
    clear h hn
    go_enter Tryd.func48, Tryd.ntmps48
    go_wp2
    go_ret
    exact ⟨rfl, HB0.out⟩

theorem made_two (w : World) (ds : List Nat) (f : Value) :
    Below w.heap.size w (((w.alloc (.cells (nums (laidD [] 0)).toArray 114)).setRow w.heap.size (nums ds).toArray).alloc (.cells #[f] 119)) ∧ NumsAt (((w.alloc (.cells (nums (laidD [] 0)).toArray 114)).setRow w.heap.size (nums ds).toArray).alloc (.cells #[f] 119)) w.heap.size ds ∧
    (((w.alloc (.cells (nums (laidD [] 0)).toArray 114)).setRow w.heap.size (nums ds).toArray).alloc (.cells #[f] 119)).cell? ⟨w.heap.size + 1, 0, none⟩ = some f := by
  have h0 : (w.alloc (.cells (nums (laidD [] 0)).toArray 114)).heap[w.heap.size]? = some (.cells (nums (laidD [] 0)).toArray 114 (0, 0)) := heap_alloc_new w _
  have h1 := setRow_heap _ w.heap.size _ (nums ds).toArray 114 (0, 0) h0
  have hsz : ((w.alloc (.cells (nums (laidD [] 0)).toArray 114)).setRow w.heap.size (nums ds).toArray).heap.size = w.heap.size + 1 := by
    rw [setRow_size]
    exact Array.size_push _
  have hb1 : Below w.heap.size w ((w.alloc (.cells (nums (laidD [] 0)).toArray 114)).setRow w.heap.size (nums ds).toArray) := below_setRow ((Below.refl _ _).alloc (Nat.le_refl _) _) (Nat.le_refl _) _
  refine ⟨hb1.alloc (by rw [hsz]; omega) _, ?_, ?_⟩
  · exact NumsAt.below h1 (row_below _ _).out
  · have h2 := heap_alloc_new ((w.alloc (.cells (nums (laidD [] 0)).toArray 114)).setRow w.heap.size (nums ds).toArray) (.cells #[f] 119)
    rw [hsz] at h2
    rw [cell_of_row _ _ _ _ _ _ h2]; rfl

set_option maxRecDepth 100000 in
set_option maxHeartbeats 4000000 in
theorem verify_any (ar am asl : Option Addr) (nr cr nm cm cs : Nat) (root msg sig : List UInt8) (key : Nat) (w : World) (hr : Bs w ar 32 cr root) (hm : Bs w am nm cm msg) (hs : Bs w asl 672 cs sig) (hk : key < 8) (hK : KAt w) :
    Calls Tryd.prog 48 #[.slice ar 32 cr, .int .i64 key, .slice am nm cm, .slice asl 672 cs] w fun e w' => e = .returned (.bool (verifyOf root key msg sig)) ∧ Below w.heap.size w w' := by
  obtain ⟨bs, os, rfl, _⟩ := hs.bat (j := 0) (by omega)
  have hcs : 672 ≤ cs := hs.cap
  have HB0 := row_below w (.cells #[.slice (some ⟨bs, os, none⟩) 672 cs] 22)
  have g0 : (w.alloc (.cells #[.slice (some ⟨bs, os, none⟩) 672 cs] 22)).heap[w.heap.size]? = some (.cells #[.slice (some ⟨bs, os, none⟩) 672 cs] 22 (0, 0)) := heap_alloc_new w _
  have HP0 : Hid ((w.alloc (.cells #[.slice (some ⟨bs, os, none⟩) 672 cs] 22)).cell? ⟨w.heap.size, 0, none⟩ = some (.slice (some ⟨bs, os, none⟩) 672 cs)) := by show _ = _; rw [cell_of_row _ _ _ _ _ _ g0]; rfl
  have HR : Hid (Pt w w.heap.size (.slice ar 32 cr) root) := Pt.arg hr (Nat.le_refl _)
  have HM : Hid (Pt w w.heap.size (.slice am nm cm) msg) := Pt.arg hm (Nat.le_refl _)
  have HS : Hid (Pt w w.heap.size (.slice (some ⟨bs, os, none⟩) 672 cs) sig) := Pt.arg hs (Nat.le_refl _)
  have HK := Lib.hid hK
  have i0 : (0 : Int) ≤ (key : Int) := by omega
  have i8 : (key : Int) < 8 := by omega
  clear hr hm hs hK g0
  go_enter Tryd.func48, Tryd.ntmps48
  go_wp2_with (fail)
  generalize w.alloc (.cells #[.slice (some ⟨bs, os, none⟩) 672 cs] 22) = w1 at HB0 HP0 ⊢
  refine (digits_any _ _ _ _ _ _ _ root msg key w1 (HR.out.below HB0.out) (HM.out.below HB0.out) (by omega) (HK.out.below HK.out.pos HB0.out)).mono ?_
  rintro e w2 ⟨rfl, hb2⟩
  have HB2 := Lib.hid (below_then HB0.out HB0.out.size hb2)
  have HP2 := Lib.hid (cell_below hb2 HP0.out)
  have HDE : Hid (verifyOf root key msg sig = decide (climb key (fun l => pieceOf sig (18 + l)) 3 (leafOf key ((List.range 18).map fun c => chain c (digitAt (digits root key msg) c) (15 - digitAt (digits root key msg) c) (pieceOf sig c))) = root)) := rfl
  have HDL := Lib.hid (digits_length root key msg)
  have HDM : Hid (∀ c, digitAt (digits root key msg) c ≤ 15) := fun c => digitAt_le _ _ _ c
  clear hb2 HP0
  generalize digits root key msg = ds at HDE HDL HDM ⊢
  have hn18 : (nums ds).toArray.size = 18 := by rw [List.size_toArray, nums_length, HDL.out]
  have HN18 := Lib.hid hn18
  have hsz : Hid ((Tryd.prog.info? 114).map (·.size) = some (nums ds).toArray.size) := by
    show _ = _
    rw [hn18]
    kernel_rfl
  have hone : Hid ((nums ds).toArray.all (·.oneCell') = true) := by
    show _ = _
    rw [Array.all_eq_true']
    intro u hu
    exact nums_one _ u (by simpa using hu)
  clear hn18
  go_wp2_with (refine wpList_store_row rfl 114 (.tmp 9) (.tmp 32) rfl w2.heap.size _ rfl rfl 114 _ (heap_alloc_new w2 _) hsz.out HN18.out.symm hone.out ?_)
  change Calls _ _ _ (((w2.alloc (.cells (nums (laidD [] 0)).toArray 114)).setRow w2.heap.size (nums ds).toArray).alloc (.cells #[.func (.func 79) #[] #[.pointer (some ⟨w.heap.size, 0, none⟩)]] 119)) _
  obtain ⟨hb3, hg3, hc3⟩ := made_two w2 ds (.func (.func 79) #[] #[.pointer (some ⟨w.heap.size, 0, none⟩)])
  generalize ((w2.alloc (.cells (nums (laidD [] 0)).toArray 114)).setRow w2.heap.size (nums ds).toArray).alloc (.cells #[.func (.func 79) #[] #[.pointer (some ⟨w.heap.size, 0, none⟩)]] 119) = w3 at hb3 hg3 hc3 ⊢
  have HB3 := Lib.hid (below_then HB2.out HB2.out.size hb3)
  have HG3 := Lib.hid hg3
  have HC3 := Lib.hid hc3
  have HP3 := Lib.hid (cell_below hb3 HP2.out)
  have HF := Lib.hid (enters_of Tryd.func81 (by kernel_rfl) rfl : ∀ args w, (callFunc 81 args).run Tryd.prog w = .ok (.enter 81 args) w)
  have HT : Hid (∀ args w, (callFunc 79 args).run Tryd.prog w = .ok (.enter 79 args) w) := enters_of Tryd.func79 (by kernel_rfl) rfl
  clear hb3 hg3 hc3 hsz hone HN18
  refine (leaf_any 0 81 _ _ key (fun c => pieceOf sig c) (fun c => digitAt ds c) w3 HF.out (by omega) HDM.out ?_ (HK.out.below HK.out.pos HB3.out)).mono ?_
  · intro j wr hj hb'
    have hx1 := cell_below hb' HP3.out
    have hx2 := cell_below hb' HC3.out
    have hx3 := (HG3.out.below hb').cell j (by rw [HDL.out]; exact hj)
    have he : (ds[j]'(by rw [HDL.out]; exact hj) : Int) = ((digitAt ds j : Nat) : Int) := by
      rw [digitAt, List.getD_eq_getElem?_getD, List.getElem?_eq_getElem (by rw [HDL.out]; exact hj)]; rfl
    rw [he] at hx3
    refine (verify2_any _ _ bs os cs _ j _ wr hx1 hx2 hx3 hj hcs).mono ?_
    rintro e w' ⟨rfl, q, rfl⟩
    have hbd := drewN_below wr q
    exact ⟨_, _, _, rfl, hbd, (piece_pt (((HS.out.below HB3.out).below hb').below hbd) j (by omega)).mono HB3.out.size⟩
  rintro e w4 ⟨a4, n4, d4, rfl, hb4, hp4⟩
  have HB4 := Lib.hid (below_then HB3.out HB3.out.size hb4)
  have HP4 := Lib.hid (cell_below hb4 HP3.out)
  have HC4 := Lib.hid (cell_below hb4 HC3.out)
  have HX4 := Lib.hid hp4
  clear hb4 hp4 HP3 HC3 HG3 HF HP2
  go_wp2_with (fail)
  go_loopw [11, 37] (fun x i wr => ∃ k : Nat, ∃ ax nx dx, k ≤ 3 ∧ i = .int .i64 k ∧ x = .slice ax nx dx ∧ Hid (Below w4.heap.size w4 wr) ∧ Hid (Pt wr 0 (.slice ax nx dx) (climb key (fun l => pieceOf sig (18 + l)) k (leafOf key ((List.range 18).map fun c => chain c (digitAt ds c) (15 - digitAt ds c) (pieceOf sig c)))))) (fun _ i _ => 3 - (intOf i).toNat)
  case atStart => exact ⟨0, _, _, _, by omega, rfl, rfl, Below.refl _ _, HX4⟩
  case round =>
    clear HX4
    obtain ⟨k, ax, nx, dx, hk3, rfl, rfl, HB, HX⟩ := hrel
    generalize leafOf key ((List.range 18).map fun c => chain c (digitAt ds c) (15 - digitAt ds c) (pieceOf sig c)) = lf at HX HDE
    have HBW := Lib.hid (below_then HB4.out HB4.out.size HB.out)
    by_cases hlt : k < 3
    · have hcl : climb key (fun l => pieceOf sig (18 + l)) (k + 1) lf = if key / 2 ^ k % 2 = 0 then node (climb key (fun l => pieceOf sig (18 + l)) k lf) (pieceOf sig (18 + k)) else node (pieceOf sig (18 + k)) (climb key (fun l => pieceOf sig (18 + l)) k lf) := rfl
      have HCL := Lib.hid hcl
      have HY : Hid (climb key (fun l => pieceOf sig (18 + l)) k lf = climb key (fun l => pieceOf sig (18 + l)) k lf) := rfl
      have hy : (key : Int) / 2 ^ k = ((key / 2 ^ k : Nat) : Int) := by simp
      have h8 : key / 2 ^ k < 8 := Nat.lt_of_le_of_lt (Nat.div_le_self _ _) hk
      have j0 : (0 : Int) ≤ (k : Int) := by omega
      have j1 : (k : Int) < 3 := by omega
      have g1 := cell_below HB.out HP4.out
      have g2 := cell_below HB.out HC4.out
      have G1 := Lib.hid g1
      have hv : Calls Tryd.prog 79 #[.int .i64 ((18 : Int) + (k : Int)), .pointer (some ⟨w.heap.size, 0, none⟩)] wr fun e w' => e = .returned (.slice (some ⟨bs, os + 32 * (18 + k), none⟩) 32 (cs - 32 * (18 + k))) ∧ wr = w' := by
        have := verify1_any ⟨w.heap.size, 0, none⟩ bs os cs (18 + k) wr g1 (by omega) hcs
        rw [show ((18 + k : Nat) : Int) = (18 : Int) + (k : Int) by omega] at this
        exact this.mono fun _ _ ⟨x, y⟩ => ⟨x, y.symm⟩
      have HV := Lib.hid hv
      have HT' := HT.out
      have HQ : Hid (Pt wr w.heap.size (.slice (some ⟨bs, os + 32 * (18 + k), none⟩) 32 (cs - 32 * (18 + k))) (pieceOf sig (18 + k))) := piece_pt (HS.out.below HBW.out) (18 + k) (by omega)
      clear hcl g1 hv HY
      generalize climb key (fun l => pieceOf sig (18 + l)) k lf = cl at HX HCL
      generalize key / 2 ^ k = y at hy h8 HCL
      have hand : bits .and .i64 (y : Int) 1 = ((y % 2 : Nat) : Int) := by
        have : y = 0 ∨ y = 1 ∨ y = 2 ∨ y = 3 ∨ y = 4 ∨ y = 5 ∨ y = 6 ∨ y = 7 := by omega
        rcases this with rfl | rfl | rfl | rfl | rfl | rfl | rfl | rfl <;> rfl
      by_cases hev : y % 2 = 0
      · rw [hev] at hand
        have HCE : Hid (climb key (fun l => pieceOf sig (18 + l)) (k + 1) lf = node cl (pieceOf sig (18 + k))) := by show _ = _; rw [HCL.out, if_pos hev]
        clear HCL hev
        go_wp2_with (fail)
        refine HV.out.mono ?_
        rintro e w5 ⟨rfl, rfl⟩
        go_wp2_with (fail)
        refine (tagged_row (D := w.heap.size) 0 wNode _ 2 [cl, pieceOf sig (18 + k)] wr (by decide) rfl (by omega) (.cons (HX.out.mono (Nat.zero_le _)) (.cons HQ.out .nil)) (HK.out.below HK.out.pos HBW.out)).mono ?_
        rintro e w6 ⟨a6, n6, d6, rfl, hb6, hp6⟩
        have HB6 := Lib.hid (below_then HB.out HB.out.size hb6)
        have HX6 : Hid (Pt w6 0 (.slice a6 n6 d6) (climb key (fun l => pieceOf sig (18 + l)) (k + 1) lf)) := by
          show Pt _ _ _ _
          rw [HCE.out]; exact hp6
        clear hb6 hp6
        go_wp2_with (fail)
        exact ⟨⟨k + 1, _, _, _, by omega, by go_num, rfl, HB6, HX6⟩, by simp [intOf]; omega⟩
      · obtain hev1 : y % 2 = 1 := by omega
        rw [hev1] at hand
        have HCE : Hid (climb key (fun l => pieceOf sig (18 + l)) (k + 1) lf = node (pieceOf sig (18 + k)) cl) := by show _ = _; rw [HCL.out, if_neg hev]
        clear HCL hev hev1
        go_wp2_with (fail)
        refine HV.out.mono ?_
        rintro e w5 ⟨rfl, rfl⟩
        go_wp2_with (fail)
        refine (tagged_row (D := w.heap.size) 0 wNode _ 2 [pieceOf sig (18 + k), cl] wr (by decide) rfl (by omega) (.cons HQ.out (.cons (HX.out.mono (Nat.zero_le _)) .nil)) (HK.out.below HK.out.pos HBW.out)).mono ?_
        rintro e w6 ⟨a6, n6, d6, rfl, hb6, hp6⟩
        have HB6 := Lib.hid (below_then HB.out HB.out.size hb6)
        have HX6 : Hid (Pt w6 0 (.slice a6 n6 d6) (climb key (fun l => pieceOf sig (18 + l)) (k + 1) lf)) := by
          show Pt _ _ _ _
          rw [HCE.out]; exact hp6
        clear hb6 hp6
        go_wp2_with (fail)
        exact ⟨⟨k + 1, _, _, _, by omega, by go_num, rfl, HB6, HX6⟩, by simp [intOf]; omega⟩
    · obtain rfl : k = 3 := by omega
      have i3 : ¬ ((3 : Nat) : Int) < 3 := by omega
      go_wp2_with (fail)
      refine (equal_any _ _ _ _ _ _ _ root wr HX.out.bs (HR.out.below HBW.out).bs).mono ?_
      rintro e w7 ⟨rfl, rfl⟩
      go_wp2_with (fail)
      go_ret
      exact ⟨by rw [HDE.out]; rfl, HBW.out⟩
end Go.Proofs.YteceagldjnfeeaaDoor
