/- The walk of isthmuslaw08.fixed. -/
import Derived.Test.YteceagldjnfeeaaDoorMk11
import Derived.Deep.RegionHeld3
namespace Go.Proofs.YteceagldjnfeeaaDoor
open Go.RowKit
set_option linter.unusedVariables false
set_option linter.unusedSimpArgs false

theorem one_pair (w : World) (k v : List UInt8) (cs : Array Value) (m : Nat) (hm : cs.size = m) (hv : cs.toList = bts v) (hmm : m ≤ 1000) :
    Prs ((w.alloc (.cells cs 5)).alloc (.cells #[str k, .slice (some ⟨w.heap.size, 0, none⟩) m m] 45)) 0 (some ⟨w.heap.size + 1, 0, none⟩) 1 1 [(k, v)] := by
  have hz : (w.alloc (.cells cs 5)).heap.size = w.heap.size + 1 := Array.size_push _
  have hb := (row_below (w.alloc (.cells cs 5)) (.cells #[str k, .slice (some ⟨w.heap.size, 0, none⟩) m m] 45)).out
  have hs := Sl.of_block (heap_alloc_new w (.cells cs 5)) (by rw [hm]; unfold maxLen; omega)
  rw [hv, hm] at hs
  have hn := heap_alloc_new (w.alloc (.cells cs 5)) (.cells #[str k, .slice (some ⟨w.heap.size, 0, none⟩) m m] 45)
  rw [hz] at hn
  refine ⟨rfl, Nat.le_refl _, by unfold maxLen; omega, fun j hj => ?_⟩
  obtain rfl : j = 0 := by omega
  refine ⟨_, 0, .slice (some ⟨w.heap.size, 0, none⟩) m m, rfl, ?_, ?_, ?_⟩
  · rw [cell_of_row _ _ _ _ _ _ hn]; rfl
  · rw [cell_of_row _ _ _ _ _ _ hn]; rfl
  · refine Pt.below ?_ hb
    exact ⟨_, _, _, rfl, hs, .inr fun ad ha => by cases ha; exact .inr ⟨_, _, heap_alloc_new w (.cells cs 5)⟩⟩

theorem two_byte (w : World) (x y : UInt8) (fr : Nat × Nat) :
    Pts ((w.alloc (.cells #[.int .u8 (ub x)] 5 fr)).alloc (.cells #[.int .u8 (ub y)] 5)) 0 (#[Value.slice (some ⟨w.heap.size, 0, none⟩) 1 1, .slice (some ⟨w.heap.size + 1, 0, none⟩) 1 1] : Array Value).toList [[x], [y]] := by
  have hz : (w.alloc (.cells #[.int .u8 (ub x)] 5 fr)).heap.size = w.heap.size + 1 := Array.size_push _
  have h1 := heap_alloc_new w (.cells #[.int .u8 (ub x)] 5 fr)
  have h2 := heap_alloc_new (w.alloc (.cells #[.int .u8 (ub x)] 5 fr)) (.cells #[.int .u8 (ub y)] 5)
  rw [hz] at h2
  have s1 := Sl.of_block h1 (by simp [maxLen])
  have s2 := Sl.of_block h2 (by simp [maxLen])
  refine .cons (Pt.below (w := w.alloc (.cells #[.int .u8 (ub x)] 5 fr)) ⟨_, _, _, rfl, s1, .inr fun ad ha => by cases ha; exact .inr ⟨_, _, h1⟩⟩ (row_below _ _).out) (.cons ⟨_, _, _, rfl, s2, .inr fun ad ha => by cases ha; exact .inr ⟨_, _, h2⟩⟩ .nil)

set_option maxRecDepth 100000 in
set_option maxHeartbeats 8000000 in
theorem fixed8_any (w : World) (hK : KAt w) : Calls Tryd.prog 52 #[] w fun e w' => e = .returned (.bool true) ∧ Below w.heap.size w w' := by
  have HK := Lib.hid hK
  clear hK
  go_enter Tryd.func52, Tryd.ntmps52
  go_wp2_with (fail)
  refine (root_any 0 none 0 0 [] w (Prs.nil w 0) HK.out).mono ?_
  rintro e w1 ⟨a1, n1, c1, rfl, hb1, hp1⟩
  have e0 : rootC [] = 0 := rfl
  rw [e0]
  have hp1' : Pt w1 0 (.slice a1 n1 c1) (tagged wRoot [be8 0]) := hp1
  have hn1 := hp1'.bs.blen
  rw [tagged_length] at hn1
  subst hn1
  have HB1 := Lib.hid hb1
  have HP1 := Lib.hid hp1'
  clear hb1 hp1 hp1' e0
  go_wp2_with (fail)
  have hpp := one_pair w1 [107] [1] #[.int .u8 1] 1 rfl rfl (by omega)
  have hbb := below_then (row_below w1 (.cells #[.int .u8 1] 5)).out (row_below w1 (.cells #[.int .u8 1] 5)).out.size (row_below (w1.alloc (.cells #[.int .u8 1] 5)) (.cells #[str [107], .slice (some ⟨w1.heap.size, 0, none⟩) 1 1] 45)).out
  have HB2 := Lib.hid (below_then HB1.out HB1.out.size hbb)
  have HPP := Lib.hid hpp
  have HP12 := Lib.hid (HP1.out.below hbb)
  clear hpp hbb
  generalize (w1.alloc (.cells #[.int .u8 1] 5)).alloc (.cells #[str [107], .slice (some ⟨w1.heap.size, 0, none⟩) 1 1] 45) = w2 at HB2 HPP HP12 ⊢
  refine (root_any 0 _ 1 1 [([107], [1])] w2 HPP.out (HK.out.below HK.out.pos HB2.out)).mono ?_
  rintro e w3 ⟨a3, n3, c3, rfl, hb3, hp3⟩
  have e0 : rootC [([107], [1])] = 0 := rfl
  rw [e0]
  have hp3' : Pt w3 0 (.slice a3 n3 c3) (tagged wRoot [be8 1, leafH ([107], [1])]) := by
    have : rootB [([107], [1])] = tagged wRoot [be8 1, leafH ([107], [1])] := by
      show topH 1 (rowH [leafH ([107], [1])]) = _
      rw [rowH_one _ (by simp)]; rfl
    rw [← this]; exact hp3
  have HB3 := Lib.hid (below_then HB2.out HB2.out.size hb3)
  have HP3 := Lib.hid hp3'
  have HP13 := Lib.hid (HP12.out.below hb3)
  clear hb3 hp3 hp3' e0
  go_wp2_with (fail)
  refine (prove_nil [107] w3 (by decide) (HK.out.below HK.out.pos HB3.out)).mono ?_
  rintro e w4 ⟨rfl, hb4⟩
  have HB4 := Lib.hid (below_then HB3.out HB3.out.size hb4)
  have HP34 := Lib.hid (HP3.out.below hb4)
  have HP14 := Lib.hid (HP13.out.below hb4)
  clear hb4
  have HB45 := Lib.hid (row_below w4 (.cells #[.int .i64 0, .slice none 0 0] 66)).out
  have hr5 : Hid ((w4.alloc (.cells #[.int .i64 0, .slice none 0 0] 66)).heap[w4.heap.size]? = some (.cells #[.int .i64 0, .slice none 0 0] 66 (0, 0))) := heap_alloc_new w4 _
  have HB5 := Lib.hid (below_then HB4.out HB4.out.size HB45.out)
  have hz : (w4.alloc (.cells #[.int .i64 0, .slice none 0 0] 66)).heap.size = w4.heap.size + 1 := Array.size_push _
  have hcv := Lib.run_convert_bytes_const (P := Tryd.prog) (w4.alloc (.cells #[.int .i64 0, .slice none 0 0] 66)) 22 5 #[.int .u8 107] 1 1 Tryd.underlying22 Tryd.underlying5
  rw [hz] at hcv
  have htb := two_byte (w4.alloc (.cells #[.int .i64 0, .slice none 0 0] 66)) 107 1 (1, 2)
  rw [hz] at htb
  rw [show ub 107 = 107 from rfl, show ub 1 = 1 from rfl] at htb
  have HTB := Lib.hid htb
  have hb6 := below_then (row_below (w4.alloc (.cells #[.int .i64 0, .slice none 0 0] 66)) (.cells #[.int .u8 107] 5 (1, 2))).out (row_below (w4.alloc (.cells #[.int .i64 0, .slice none 0 0] 66)) (.cells #[.int .u8 107] 5 (1, 2))).out.size (row_below ((w4.alloc (.cells #[.int .i64 0, .slice none 0 0] 66)).alloc (.cells #[.int .u8 107] 5 (1, 2))) (.cells #[.int .u8 1] 5)).out
  have HB56 := Lib.hid hb6
  have HB6 := Lib.hid (below_then HB5.out HB5.out.size hb6)
  have hz3 : (((w4.alloc (.cells #[.int .i64 0, .slice none 0 0] 66)).alloc (.cells #[.int .u8 107] 5 (1, 2))).alloc (.cells #[.int .u8 1] 5)).heap.size = w4.heap.size + 1 + 1 + 1 := by
    show (Array.push (Array.push _ _) _).size = _
    rw [Array.size_push, Array.size_push, hz]
  have hcall := tagged_row (D := 0) 0 wLeaf _ 2 [[107], [1]] _ (by decide) rfl (by omega) HTB.out (HK.out.below HK.out.pos HB6.out)
  rw [hz3] at hcall
  have HCALL := Lib.hid hcall
  have hr6 : Hid ((((w4.alloc (.cells #[.int .i64 0, .slice none 0 0] 66)).alloc (.cells #[.int .u8 107] 5 (1, 2))).alloc (.cells #[.int .u8 1] 5)).heap[w4.heap.size]? = some (.cells #[.int .i64 0, .slice none 0 0] 66 (0, 0))) := (HB56.out.block _ (blk_lt hr5.out)).trans hr5.out
  clear htb hb6 hz hz3 hcall
  go_wp2_with (fail)
  clear hcv
  refine HCALL.out.mono ?_
  rintro e w7 ⟨a7, n7, c7, rfl, hb7, hp7⟩
  have HB7 := Lib.hid (below_then HB6.out HB6.out.size hb7)
  have hb47 := below_then HB45.out HB45.out.size HB56.out
  have hb47' := below_then hb47 hb47.size hb7
  have HPA := Lib.hid (HP14.out.below hb47')
  have HPB := Lib.hid (HP34.out.below hb47')
  have HPC : Hid (Pt w7 0 (.slice a7 n7 c7) (leafH ([107], [1]))) := hp7
  have HK7 := Lib.hid (HK.out.below HK.out.pos HB7.out)
  have hr7 : Hid (w7.heap[w4.heap.size]? = some (.cells #[.int .i64 0, .slice none 0 0] 66 (0, 0))) := (hb7.block _ (blk_lt hr6.out)).trans hr6.out
  have HB07 := Lib.hid (HB7.out)
  clear hb7 hp7 hb47 hb47' HP14 HP34 HP13 HP3 HP12 HP1 HCALL HTB HB56 HB6 HB5 hr5 hr6 HB45 HPP
  go_wp2_with (fail)
  have START : Hid (∀ W, Hid (Below w7.heap.size w7 W) → Hid (Below w7.heap.size w7 W) ∧ (convert 22 9 (.slice a1 32 c1)).run Tryd.prog W = .ok (.string ⟨(tagged wRoot [be8 0]).toArray⟩) W ∧ (convert 22 9 (.slice a3 n3 c3)).run Tryd.prog W = .ok (.string ⟨(tagged wRoot [be8 1, leafH ([107], [1])]).toArray⟩) W ∧
      W.cell? ⟨w4.heap.size, 0, none⟩ = some (.int .i64 0) ∧ W.cell? ⟨w4.heap.size, 1, none⟩ = some (.slice none 0 0)) := fun W hW =>
    ⟨hW, conv_str (HPA.out.below hW.out).bs, conv_str (HPB.out.below hW.out).bs,
      below_cell hW.out (by rw [cell_of_row _ _ _ _ _ _ hr7.out]; rfl), below_cell hW.out (by rw [cell_of_row _ _ _ _ _ _ hr7.out]; rfl)⟩
  have C0 : Hid (∀ W, Hid (Below w7.heap.size w7 W) → Calls Tryd.prog 93 #[.slice none 0 0, .int .u64 0] W (fun e w' => ∃ a n c, e = .returned (.slice a n c) ∧ Hid (Below W.heap.size W w') ∧ Hid (Below w7.heap.size w7 w') ∧ Hid (Pt w' 0 (.slice a n c) (be8 0)))) := fun W hW =>
    (wireN_any 0 W).mono fun e w' h => by
      obtain ⟨a, n, c, h1, h2, h3⟩ := h.toP (B := 0)
      exact ⟨a, n, c, h1, h2, below_then hW.out hW.out.size h2, h3⟩
  have C1 : Hid (∀ W, Hid (Below w7.heap.size w7 W) → Calls Tryd.prog 93 #[.slice none 0 0, .int .u64 1] W (fun e w' => ∃ a n c, e = .returned (.slice a n c) ∧ Hid (Below W.heap.size W w') ∧ Hid (Below w7.heap.size w7 w') ∧ Hid (Pt w' 0 (.slice a n c) (be8 1)))) := fun W hW =>
    (wireN_any 1 W).mono fun e w' h => by
      obtain ⟨a, n, c, h1, h2, h3⟩ := h.toP (B := 0)
      exact ⟨a, n, c, h1, h2, below_then hW.out hW.out.size h2, h3⟩
  have CA : Hid (∀ W, Hid (Below w7.heap.size w7 W) → Calls Tryd.prog 58 #[.slice a1 32 c1, .string ⟨#[107]⟩, .agg #[.int .i64 0, .slice none 0 0]] W (fun e w' => e = .returned (.bool true) ∧ Hid (Below w7.heap.size w7 w'))) := fun W hW =>
    (absent_any a1 none 32 c1 0 0 (tagged wRoot [be8 0]) [107] ⟨0, []⟩ W (HPA.out.below hW.out) (Lvs.nil W 0) (HK7.out.below HK7.out.pos hW.out)).mono fun e w' h => by
      obtain ⟨h1, h2⟩ := h
      refine ⟨?_, below_then hW.out hW.out.size h2⟩
      rw [h1, absentV_0 (by decide)]
      simp [topH]
  have CV : Hid (∀ W, Hid (Below w7.heap.size w7 W) → Calls Tryd.prog 56 #[.slice a1 32 c1, .string ⟨#[107]⟩, .slice none 0 0, .agg #[.int .i64 0, .slice none 0 0]] W (fun e w' => e = .returned (.bool false) ∧ Hid (Below w7.heap.size w7 w'))) := fun W hW =>
    (verify_any' a1 none none 32 c1 0 0 0 0 (tagged wRoot [be8 0]) [107] [] ⟨0, []⟩ W (HPA.out.below hW.out) (Pt.zero W 0) (Lvs.nil W 0) (HK7.out.below HK7.out.pos hW.out)).mono fun e w' h => by
      obtain ⟨h1, h2⟩ := h
      exact ⟨h1, below_then hW.out hW.out.size h2⟩
  have hstart : Hid (Below w7.heap.size w7 w7) := Below.refl _ _
  have hstartd : Hid (Below w7.heap.size w7 w7.drew) := (Below.refl _ _).drew
  obtain ⟨_s0, s1, s2, s3, s4⟩ := START.out w7 hstart
  clear _s0
  refine wp_region_held_drew (S := fun W => Hid (Below w7.heap.size w7 W) ∧ (convert 22 9 (.slice a1 32 c1)).run Tryd.prog W = .ok (.string ⟨(tagged wRoot [be8 0]).toArray⟩) W ∧ (convert 22 9 (.slice a3 n3 c3)).run Tryd.prog W = .ok (.string ⟨(tagged wRoot [be8 1, leafH ([107], [1])]).toArray⟩) W ∧ W.cell? ⟨w4.heap.size, 0, none⟩ = some (.int .i64 0) ∧ W.cell? ⟨w4.heap.size, 1, none⟩ = some (.slice none 0 0)) (by kernel_rfl) (START.out _ hstartd) (fun hS => ?_)
  refine' wpAnyH_take (i := 0) (v := _) rfl (by kernel_rfl) (by kernel_rfl) (by kernel_rfl) (fun _ _ _ h => h) (Or.inl ⟨by rfl, ?_⟩) (by assumption) ?_
  rotate_left
  · intro W hSw
    obtain ⟨q0, q1, q2, q3, q4⟩ := hSw
    simp only [List.getElem_toArray, List.getElem_cons_zero, List.getElem_cons_succ]
    go_simp
    try rfl
  simp only [List.getElem_toArray, List.getElem_cons_zero, List.getElem_cons_succ, Act.put, List.setIfInBounds_toArray, List.set_cons_zero, List.set_cons_succ]
  refine' wpAnyH_take (i := 1) (v := _) rfl (by kernel_rfl) (by kernel_rfl) (by kernel_rfl) (fun _ _ _ h => h) (Or.inl ⟨by rfl, ?_⟩) (by assumption) ?_
  rotate_left
  · intro W hSw
    obtain ⟨q0, q1, q2, q3, q4⟩ := hSw
    simp only [List.getElem_toArray, List.getElem_cons_zero, List.getElem_cons_succ]
    go_simp
    try rfl
  simp only [List.getElem_toArray, List.getElem_cons_zero, List.getElem_cons_succ, Act.put, List.setIfInBounds_toArray, List.set_cons_zero, List.set_cons_succ]
  refine' wpAnyH_take (i := 2) (v := _) rfl (by kernel_rfl) (by kernel_rfl) (by kernel_rfl) (fun _ _ _ h => h) (Or.inl ⟨by rfl, ?_⟩) (by assumption) ?_
  rotate_left
  · intro W hSw
    obtain ⟨q0, q1, q2, q3, q4⟩ := hSw
    simp only [List.getElem_toArray, List.getElem_cons_zero, List.getElem_cons_succ]
    go_simp
    try rfl
  simp only [List.getElem_toArray, List.getElem_cons_zero, List.getElem_cons_succ, Act.put, List.setIfInBounds_toArray, List.set_cons_zero, List.set_cons_succ]
  refine' wpAnyH_take (i := 3) (v := _) rfl (by kernel_rfl) (by kernel_rfl) (by kernel_rfl) (fun _ _ _ h => h) (Or.inl ⟨by rfl, ?_⟩) (by assumption) ?_
  rotate_left
  · intro W hSw
    obtain ⟨q0, q1, q2, q3, q4⟩ := hSw
    simp only [List.getElem_toArray, List.getElem_cons_zero, List.getElem_cons_succ]
    go_simp
    try rfl
  simp only [List.getElem_toArray, List.getElem_cons_zero, List.getElem_cons_succ, Act.put, List.setIfInBounds_toArray, List.set_cons_zero, List.set_cons_succ]
  refine' wpAnyH_take (i := 4) (v := _) rfl (by kernel_rfl) (by kernel_rfl) (by kernel_rfl) (fun _ _ _ h => h) (Or.inl ⟨by rfl, ?_⟩) (by assumption) ?_
  rotate_left
  · intro W hSw
    obtain ⟨q0, q1, q2, q3, q4⟩ := hSw
    simp only [List.getElem_toArray, List.getElem_cons_zero, List.getElem_cons_succ]
    go_simp
    try rfl
  simp only [List.getElem_toArray, List.getElem_cons_zero, List.getElem_cons_succ, Act.put, List.setIfInBounds_toArray, List.set_cons_zero, List.set_cons_succ]
  refine' wpAnyH_take (i := 5) (v := _) rfl (by kernel_rfl) (by kernel_rfl) (by kernel_rfl) (fun _ _ _ h => h) (Or.inl ⟨by rfl, ?_⟩) (by assumption) ?_
  rotate_left
  · intro W hSw
    obtain ⟨q0, q1, q2, q3, q4⟩ := hSw
    simp only [List.getElem_toArray, List.getElem_cons_zero, List.getElem_cons_succ]
    go_simp
    try rfl
  simp only [List.getElem_toArray, List.getElem_cons_zero, List.getElem_cons_succ, Act.put, List.setIfInBounds_toArray, List.set_cons_zero, List.set_cons_succ]
  refine wpAnyH_ready (rs := [6]) (by kernel_rfl) (by simp) ?_
  refine AllReadyH.cons rfl (fun K hK => ?_) AllReadyH.nil
  simp only [List.getElem_toArray, List.getElem_cons_zero, List.getElem_cons_succ]
  go_simp
  refine (C0.out _ hstartd).mono ?_
  rintro e w8 ⟨a8, n8, c8, rfl, HX8, HB8, HP8⟩
  try go_simp
  refine hK.out _ _ (START.out _ (by first | assumption | exact hid_drew (by assumption) | exact hid_row (by assumption) _)) (fun hS => ?_)
  clear hK K
  try simp only [List.getElem_toArray, List.getElem_cons_zero, List.getElem_cons_succ, Act.put, List.setIfInBounds_toArray, List.set_cons_zero, List.set_cons_succ]
  refine wpAnyH_ready (rs := [7]) (by kernel_rfl) (by simp) ?_
  refine AllReadyH.cons rfl (fun K hK => ?_) AllReadyH.nil
  simp only [List.getElem_toArray, List.getElem_cons_zero, List.getElem_cons_succ]
  go_simp
  refine hK.out _ _ (START.out _ (by first | assumption | exact hid_drew (by assumption) | exact hid_row (by assumption) _)) (fun hS => ?_)
  clear hK K
  try simp only [List.getElem_toArray, List.getElem_cons_zero, List.getElem_cons_succ, Act.put, List.setIfInBounds_toArray, List.set_cons_zero, List.set_cons_succ]
  refine wpAnyH_ready (rs := [8]) (by kernel_rfl) (by simp) ?_
  refine AllReadyH.cons rfl (fun K hK => ?_) AllReadyH.nil
  simp only [List.getElem_toArray, List.getElem_cons_zero, List.getElem_cons_succ]
  go_simp
  refine (tagged_row (D := 0) 0 wRoot #[.slice a8 n8 c8] 1 [be8 0] w8 (by decide) rfl (by omega) (.cons HP8.out .nil) (HK7.out.below HK7.out.pos HB8.out)).mono ?_
  rintro e w9 ⟨a9, n9, c9, rfl, hx9, hp9⟩
  have HB9 : Hid (Below w7.heap.size w7 w9) := below_then HB8.out HB8.out.size hx9
  have k9 := conv_str hp9.bs
  clear hx9 hp9
  try go_simp
  refine hK.out _ _ (START.out _ (by first | assumption | exact hid_drew (by assumption) | exact hid_row (by assumption) _)) (fun hS => ?_)
  clear hK K
  try simp only [List.getElem_toArray, List.getElem_cons_zero, List.getElem_cons_succ, Act.put, List.setIfInBounds_toArray, List.set_cons_zero, List.set_cons_succ]
  refine wpAnyH_ready (rs := [9]) (by kernel_rfl) (by simp) ?_
  refine AllReadyH.cons rfl (fun K hK => ?_) AllReadyH.nil
  simp only [List.getElem_toArray, List.getElem_cons_zero, List.getElem_cons_succ]
  go_simp
  refine hK.out _ _ (START.out _ (by first | assumption | exact hid_drew (by assumption) | exact hid_row (by assumption) _)) (fun hS => ?_)
  clear hK K
  try simp only [List.getElem_toArray, List.getElem_cons_zero, List.getElem_cons_succ, Act.put, List.setIfInBounds_toArray, List.set_cons_zero, List.set_cons_succ]
  refine' wpAnyH_take (i := 10) (v := _) rfl (by kernel_rfl) (by kernel_rfl) (by kernel_rfl) (fun _ _ _ h => h) (Or.inl ⟨by rfl, ?_⟩) (by assumption) ?_
  rotate_left
  · intro W hSw
    obtain ⟨q0, q1, q2, q3, q4⟩ := hSw
    simp only [List.getElem_toArray, List.getElem_cons_zero, List.getElem_cons_succ]
    go_simp
    try rfl
  simp only [List.getElem_toArray, List.getElem_cons_zero, List.getElem_cons_succ, Act.put, List.setIfInBounds_toArray, List.set_cons_zero, List.set_cons_succ]
  refine' wpAnyH_take (i := 11) (v := _) rfl (by kernel_rfl) (by kernel_rfl) (by kernel_rfl) (fun _ _ _ h => h) (Or.inl ⟨by rfl, ?_⟩) (by assumption) ?_
  rotate_left
  · intro W hSw
    obtain ⟨q0, q1, q2, q3, q4⟩ := hSw
    simp only [List.getElem_toArray, List.getElem_cons_zero, List.getElem_cons_succ]
    go_simp
    try rfl
  simp only [List.getElem_toArray, List.getElem_cons_zero, List.getElem_cons_succ, Act.put, List.setIfInBounds_toArray, List.set_cons_zero, List.set_cons_succ]
  refine' wpAnyH_take (i := 12) (v := _) rfl (by kernel_rfl) (by kernel_rfl) (by kernel_rfl) (fun _ _ _ h => h) (Or.inl ⟨by rfl, ?_⟩) (by assumption) ?_
  rotate_left
  · intro W hSw
    obtain ⟨q0, q1, q2, q3, q4⟩ := hSw
    simp only [List.getElem_toArray, List.getElem_cons_zero, List.getElem_cons_succ]
    go_simp
    try rfl
  simp only [List.getElem_toArray, List.getElem_cons_zero, List.getElem_cons_succ, Act.put, List.setIfInBounds_toArray, List.set_cons_zero, List.set_cons_succ]
  refine' wpAnyH_take (i := 13) (v := _) rfl (by kernel_rfl) (by kernel_rfl) (by kernel_rfl) (fun _ _ _ h => h) (Or.inl ⟨by rfl, ?_⟩) (by assumption) ?_
  rotate_left
  · intro W hSw
    obtain ⟨q0, q1, q2, q3, q4⟩ := hSw
    simp only [List.getElem_toArray, List.getElem_cons_zero, List.getElem_cons_succ]
    go_simp
    try rfl
  simp only [List.getElem_toArray, List.getElem_cons_zero, List.getElem_cons_succ, Act.put, List.setIfInBounds_toArray, List.set_cons_zero, List.set_cons_succ]
  refine' wpAnyH_take (i := 14) (v := _) rfl (by kernel_rfl) (by kernel_rfl) (by kernel_rfl) (fun _ _ _ h => h) (Or.inl ⟨by rfl, ?_⟩) (by assumption) ?_
  rotate_left
  · intro W hSw
    obtain ⟨q0, q1, q2, q3, q4⟩ := hSw
    simp only [List.getElem_toArray, List.getElem_cons_zero, List.getElem_cons_succ]
    go_simp
    try rfl
  simp only [List.getElem_toArray, List.getElem_cons_zero, List.getElem_cons_succ, Act.put, List.setIfInBounds_toArray, List.set_cons_zero, List.set_cons_succ]
  refine' wpAnyH_take (i := 15) (v := _) rfl (by kernel_rfl) (by kernel_rfl) (by kernel_rfl) (fun _ _ _ h => h) (Or.inl ⟨by rfl, ?_⟩) (by assumption) ?_
  rotate_left
  · intro W hSw
    obtain ⟨q0, q1, q2, q3, q4⟩ := hSw
    simp only [List.getElem_toArray, List.getElem_cons_zero, List.getElem_cons_succ]
    go_simp
    try rfl
  simp only [List.getElem_toArray, List.getElem_cons_zero, List.getElem_cons_succ, Act.put, List.setIfInBounds_toArray, List.set_cons_zero, List.set_cons_succ]
  refine' wpAnyH_take (i := 16) (v := _) rfl (by kernel_rfl) (by kernel_rfl) (by kernel_rfl) (fun _ _ _ h => h) (Or.inl ⟨by rfl, ?_⟩) (by assumption) ?_
  rotate_left
  · intro W hSw
    obtain ⟨q0, q1, q2, q3, q4⟩ := hSw
    simp only [List.getElem_toArray, List.getElem_cons_zero, List.getElem_cons_succ]
    go_simp
    try rfl
  simp only [List.getElem_toArray, List.getElem_cons_zero, List.getElem_cons_succ, Act.put, List.setIfInBounds_toArray, List.set_cons_zero, List.set_cons_succ]
  refine' wpAnyH_take (i := 17) (v := _) rfl (by kernel_rfl) (by kernel_rfl) (by kernel_rfl) (fun _ _ _ h => h) (Or.inl ⟨by rfl, ?_⟩) (by assumption) ?_
  rotate_left
  · intro W hSw
    obtain ⟨q0, q1, q2, q3, q4⟩ := hSw
    simp only [List.getElem_toArray, List.getElem_cons_zero, List.getElem_cons_succ]
    go_simp
    try rfl
  simp only [List.getElem_toArray, List.getElem_cons_zero, List.getElem_cons_succ, Act.put, List.setIfInBounds_toArray, List.set_cons_zero, List.set_cons_succ]
  refine' wpAnyH_take (i := 18) (v := _) rfl (by kernel_rfl) (by kernel_rfl) (by kernel_rfl) (fun _ _ _ h => h) (Or.inl ⟨by rfl, ?_⟩) (by assumption) ?_
  rotate_left
  · intro W hSw
    obtain ⟨q0, q1, q2, q3, q4⟩ := hSw
    simp only [List.getElem_toArray, List.getElem_cons_zero, List.getElem_cons_succ]
    go_simp
    try rfl
  simp only [List.getElem_toArray, List.getElem_cons_zero, List.getElem_cons_succ, Act.put, List.setIfInBounds_toArray, List.set_cons_zero, List.set_cons_succ]
  refine' wpAnyH_take (i := 20) (v := _) rfl (by kernel_rfl) (by kernel_rfl) (by kernel_rfl) (fun _ _ _ h => h) (Or.inl ⟨by rfl, ?_⟩) (by assumption) ?_
  rotate_left
  · intro W hSw
    obtain ⟨q0, q1, q2, q3, q4⟩ := hSw
    simp only [List.getElem_toArray, List.getElem_cons_zero, List.getElem_cons_succ]
    go_simp
    try rfl
  simp only [List.getElem_toArray, List.getElem_cons_zero, List.getElem_cons_succ, Act.put, List.setIfInBounds_toArray, List.set_cons_zero, List.set_cons_succ]
  refine wpAnyH_ready (rs := [19]) (by kernel_rfl) (by simp) ?_
  refine AllReadyH.cons rfl (fun K hK => ?_) AllReadyH.nil
  simp only [List.getElem_toArray, List.getElem_cons_zero, List.getElem_cons_succ]
  go_simp
  refine (C1.out _ HB9).mono ?_
  rintro e w10 ⟨a10, n10, c10, rfl, HX10, HB10, HP10⟩
  try go_simp
  refine hK.out _ _ (START.out _ (by first | assumption | exact hid_drew (by assumption) | exact hid_row (by assumption) _)) (fun hS => ?_)
  clear hK K
  try simp only [List.getElem_toArray, List.getElem_cons_zero, List.getElem_cons_succ, Act.put, List.setIfInBounds_toArray, List.set_cons_zero, List.set_cons_succ]
  refine wpAnyH_ready (rs := [21]) (by kernel_rfl) (by simp) ?_
  refine AllReadyH.cons rfl (fun K hK => ?_) AllReadyH.nil
  simp only [List.getElem_toArray, List.getElem_cons_zero, List.getElem_cons_succ]
  go_simp
  refine hK.out _ _ (START.out _ (by first | assumption | exact hid_drew (by assumption) | exact hid_row (by assumption) _)) (fun hS => ?_)
  clear hK K
  try simp only [List.getElem_toArray, List.getElem_cons_zero, List.getElem_cons_succ, Act.put, List.setIfInBounds_toArray, List.set_cons_zero, List.set_cons_succ]
  refine wpAnyH_ready (rs := [22]) (by kernel_rfl) (by simp) ?_
  refine AllReadyH.cons rfl (fun K hK => ?_) AllReadyH.nil
  simp only [List.getElem_toArray, List.getElem_cons_zero, List.getElem_cons_succ]
  go_simp
  refine (tagged_row (D := 0) 0 wRoot #[.slice a10 n10 c10, .slice a7 n7 c7] 2 [be8 1, leafH ([107], [1])] w10 (by decide) rfl (by omega) (.cons HP10.out (.cons (HPC.out.below HB10.out) .nil)) (HK7.out.below HK7.out.pos HB10.out)).mono ?_
  rintro e w11 ⟨a11, n11, c11, rfl, hx11, hp11⟩
  have HB11 : Hid (Below w7.heap.size w7 w11) := below_then HB10.out HB10.out.size hx11
  have k11 := conv_str hp11.bs
  clear hx11 hp11
  try go_simp
  refine hK.out _ _ (START.out _ (by first | assumption | exact hid_drew (by assumption) | exact hid_row (by assumption) _)) (fun hS => ?_)
  clear hK K
  try simp only [List.getElem_toArray, List.getElem_cons_zero, List.getElem_cons_succ, Act.put, List.setIfInBounds_toArray, List.set_cons_zero, List.set_cons_succ]
  refine wpAnyH_ready (rs := [23]) (by kernel_rfl) (by simp) ?_
  refine AllReadyH.cons rfl (fun K hK => ?_) AllReadyH.nil
  simp only [List.getElem_toArray, List.getElem_cons_zero, List.getElem_cons_succ]
  go_simp
  refine hK.out _ _ (START.out _ (by first | assumption | exact hid_drew (by assumption) | exact hid_row (by assumption) _)) (fun hS => ?_)
  clear hK K
  try simp only [List.getElem_toArray, List.getElem_cons_zero, List.getElem_cons_succ, Act.put, List.setIfInBounds_toArray, List.set_cons_zero, List.set_cons_succ]
  refine' wpAnyH_take (i := 24) (v := _) rfl (by kernel_rfl) (by kernel_rfl) (by kernel_rfl) (fun _ _ _ h => h) (Or.inl ⟨by rfl, ?_⟩) (by assumption) ?_
  rotate_left
  · intro W hSw
    obtain ⟨q0, q1, q2, q3, q4⟩ := hSw
    simp only [List.getElem_toArray, List.getElem_cons_zero, List.getElem_cons_succ]
    go_simp
    try rfl
  simp only [List.getElem_toArray, List.getElem_cons_zero, List.getElem_cons_succ, Act.put, List.setIfInBounds_toArray, List.set_cons_zero, List.set_cons_succ]
  refine' wpAnyH_take (i := 25) (v := _) rfl (by kernel_rfl) (by kernel_rfl) (by kernel_rfl) (fun _ _ _ h => h) (Or.inl ⟨by rfl, ?_⟩) (by assumption) ?_
  rotate_left
  · intro W hSw
    obtain ⟨q0, q1, q2, q3, q4⟩ := hSw
    simp only [List.getElem_toArray, List.getElem_cons_zero, List.getElem_cons_succ]
    go_simp
    try rfl
  simp only [List.getElem_toArray, List.getElem_cons_zero, List.getElem_cons_succ, Act.put, List.setIfInBounds_toArray, List.set_cons_zero, List.set_cons_succ]
  refine' wpAnyH_take (i := 26) (v := _) rfl (by kernel_rfl) (by kernel_rfl) (by kernel_rfl) (fun _ _ _ h => h) (Or.inl ⟨by rfl, ?_⟩) (by assumption) ?_
  rotate_left
  · intro W hSw
    obtain ⟨q0, q1, q2, q3, q4⟩ := hSw
    simp only [List.getElem_toArray, List.getElem_cons_zero, List.getElem_cons_succ]
    go_simp
    try rfl
  simp only [List.getElem_toArray, List.getElem_cons_zero, List.getElem_cons_succ, Act.put, List.setIfInBounds_toArray, List.set_cons_zero, List.set_cons_succ]
  refine' wpAnyH_take (i := 27) (v := _) rfl (by kernel_rfl) (by kernel_rfl) (by kernel_rfl) (fun _ _ _ h => h) (Or.inl ⟨by rfl, ?_⟩) (by assumption) ?_
  rotate_left
  · intro W hSw
    obtain ⟨q0, q1, q2, q3, q4⟩ := hSw
    simp only [List.getElem_toArray, List.getElem_cons_zero, List.getElem_cons_succ]
    go_simp
    try rfl
  simp only [List.getElem_toArray, List.getElem_cons_zero, List.getElem_cons_succ, Act.put, List.setIfInBounds_toArray, List.set_cons_zero, List.set_cons_succ]
  refine' wpAnyH_take (i := 28) (v := _) rfl (by kernel_rfl) (by kernel_rfl) (by kernel_rfl) (fun _ _ _ h => h) (Or.inl ⟨by rfl, ?_⟩) (by assumption) ?_
  rotate_left
  · intro W hSw
    obtain ⟨q0, q1, q2, q3, q4⟩ := hSw
    simp only [List.getElem_toArray, List.getElem_cons_zero, List.getElem_cons_succ]
    go_simp
    try rfl
  simp only [List.getElem_toArray, List.getElem_cons_zero, List.getElem_cons_succ, Act.put, List.setIfInBounds_toArray, List.set_cons_zero, List.set_cons_succ]
  refine' wpAnyH_take (i := 29) (v := _) rfl (by kernel_rfl) (by kernel_rfl) (by kernel_rfl) (fun _ _ _ h => h) (Or.inl ⟨by rfl, ?_⟩) (by assumption) ?_
  rotate_left
  · intro W hSw
    obtain ⟨q0, q1, q2, q3, q4⟩ := hSw
    simp only [List.getElem_toArray, List.getElem_cons_zero, List.getElem_cons_succ]
    go_simp
    try rfl
  simp only [List.getElem_toArray, List.getElem_cons_zero, List.getElem_cons_succ, Act.put, List.setIfInBounds_toArray, List.set_cons_zero, List.set_cons_succ]
  refine' wpAnyH_take (i := 30) (v := _) rfl (by kernel_rfl) (by kernel_rfl) (by kernel_rfl) (fun _ _ _ h => h) (Or.inl ⟨by rfl, ?_⟩) (by assumption) ?_
  rotate_left
  · intro W hSw
    obtain ⟨q0, q1, q2, q3, q4⟩ := hSw
    simp only [List.getElem_toArray, List.getElem_cons_zero, List.getElem_cons_succ]
    go_simp
    try rfl
  simp only [List.getElem_toArray, List.getElem_cons_zero, List.getElem_cons_succ, Act.put, List.setIfInBounds_toArray, List.set_cons_zero, List.set_cons_succ]
  refine' wpAnyH_take (i := 31) (v := _) rfl (by kernel_rfl) (by kernel_rfl) (by kernel_rfl) (fun _ _ _ h => h) (Or.inl ⟨by rfl, ?_⟩) (by assumption) ?_
  rotate_left
  · intro W hSw
    obtain ⟨q0, q1, q2, q3, q4⟩ := hSw
    simp only [List.getElem_toArray, List.getElem_cons_zero, List.getElem_cons_succ]
    go_simp
    try rfl
  simp only [List.getElem_toArray, List.getElem_cons_zero, List.getElem_cons_succ, Act.put, List.setIfInBounds_toArray, List.set_cons_zero, List.set_cons_succ]
  refine' wpAnyH_take (i := 32) (v := _) rfl (by kernel_rfl) (by kernel_rfl) (by kernel_rfl) (fun _ _ _ h => h) (Or.inl ⟨by rfl, ?_⟩) (by assumption) ?_
  rotate_left
  · intro W hSw
    obtain ⟨q0, q1, q2, q3, q4⟩ := hSw
    simp only [List.getElem_toArray, List.getElem_cons_zero, List.getElem_cons_succ]
    go_simp
    try rfl
  simp only [List.getElem_toArray, List.getElem_cons_zero, List.getElem_cons_succ, Act.put, List.setIfInBounds_toArray, List.set_cons_zero, List.set_cons_succ]
  refine' wpAnyH_take (i := 33) (v := _) rfl (by kernel_rfl) (by kernel_rfl) (by kernel_rfl) (fun _ _ _ h => h) (Or.inl ⟨by rfl, ?_⟩) (by assumption) ?_
  rotate_left
  · intro W hSw
    obtain ⟨q0, q1, q2, q3, q4⟩ := hSw
    simp only [List.getElem_toArray, List.getElem_cons_zero, List.getElem_cons_succ]
    go_simp
    try rfl
  simp only [List.getElem_toArray, List.getElem_cons_zero, List.getElem_cons_succ, Act.put, List.setIfInBounds_toArray, List.set_cons_zero, List.set_cons_succ]
  refine' wpAnyH_take (i := 34) (v := _) rfl (by kernel_rfl) (by kernel_rfl) (by kernel_rfl) (fun _ _ _ h => h) (Or.inl ⟨by rfl, ?_⟩) (by assumption) ?_
  rotate_left
  · intro W hSw
    obtain ⟨q0, q1, q2, q3, q4⟩ := hSw
    simp only [List.getElem_toArray, List.getElem_cons_zero, List.getElem_cons_succ]
    go_simp
    try rfl
  simp only [List.getElem_toArray, List.getElem_cons_zero, List.getElem_cons_succ, Act.put, List.setIfInBounds_toArray, List.set_cons_zero, List.set_cons_succ]
  refine' wpAnyH_take (i := 35) (v := _) rfl (by kernel_rfl) (by kernel_rfl) (by kernel_rfl) (fun _ _ _ h => h) (Or.inl ⟨by rfl, ?_⟩) (by assumption) ?_
  rotate_left
  · intro W hSw
    obtain ⟨q0, q1, q2, q3, q4⟩ := hSw
    simp only [List.getElem_toArray, List.getElem_cons_zero, List.getElem_cons_succ]
    go_simp
    try rfl
  simp only [List.getElem_toArray, List.getElem_cons_zero, List.getElem_cons_succ, Act.put, List.setIfInBounds_toArray, List.set_cons_zero, List.set_cons_succ]
  refine' wpAnyH_take (i := 36) (v := _) rfl (by kernel_rfl) (by kernel_rfl) (by kernel_rfl) (fun _ _ _ h => h) (Or.inl ⟨by rfl, ?_⟩) (by assumption) ?_
  rotate_left
  · intro W hSw
    obtain ⟨q0, q1, q2, q3, q4⟩ := hSw
    simp only [List.getElem_toArray, List.getElem_cons_zero, List.getElem_cons_succ]
    go_simp
    try rfl
  simp only [List.getElem_toArray, List.getElem_cons_zero, List.getElem_cons_succ, Act.put, List.setIfInBounds_toArray, List.set_cons_zero, List.set_cons_succ]
  refine wpAnyH_ready (rs := [37]) (by kernel_rfl) (by simp) ?_
  refine AllReadyH.cons rfl (fun K hK => ?_) AllReadyH.nil
  simp only [List.getElem_toArray, List.getElem_cons_zero, List.getElem_cons_succ]
  go_simp
  refine (CA.out _ HB11).mono ?_
  rintro e w12 ⟨rfl, HB12⟩
  try go_simp
  refine hK.out _ _ (START.out _ (by first | assumption | exact hid_drew (by assumption) | exact hid_row (by assumption) _)) (fun hS => ?_)
  clear hK K
  try simp only [List.getElem_toArray, List.getElem_cons_zero, List.getElem_cons_succ, Act.put, List.setIfInBounds_toArray, List.set_cons_zero, List.set_cons_succ]
  refine' wpAnyH_take (i := 38) (v := _) rfl (by kernel_rfl) (by kernel_rfl) (by kernel_rfl) (fun _ _ _ h => h) (Or.inl ⟨by rfl, ?_⟩) (by assumption) ?_
  rotate_left
  · intro W hSw
    obtain ⟨q0, q1, q2, q3, q4⟩ := hSw
    simp only [List.getElem_toArray, List.getElem_cons_zero, List.getElem_cons_succ]
    go_simp
    try rfl
  simp only [List.getElem_toArray, List.getElem_cons_zero, List.getElem_cons_succ, Act.put, List.setIfInBounds_toArray, List.set_cons_zero, List.set_cons_succ]
  refine' wpAnyH_take (i := 39) (v := _) rfl (by kernel_rfl) (by kernel_rfl) (by kernel_rfl) (fun _ _ _ h => h) (Or.inl ⟨by rfl, ?_⟩) (by assumption) ?_
  rotate_left
  · intro W hSw
    obtain ⟨q0, q1, q2, q3, q4⟩ := hSw
    simp only [List.getElem_toArray, List.getElem_cons_zero, List.getElem_cons_succ]
    go_simp
    try rfl
  simp only [List.getElem_toArray, List.getElem_cons_zero, List.getElem_cons_succ, Act.put, List.setIfInBounds_toArray, List.set_cons_zero, List.set_cons_succ]
  refine' wpAnyH_take (i := 40) (v := _) rfl (by kernel_rfl) (by kernel_rfl) (by kernel_rfl) (fun _ _ _ h => h) (Or.inl ⟨by rfl, ?_⟩) (by assumption) ?_
  rotate_left
  · intro W hSw
    obtain ⟨q0, q1, q2, q3, q4⟩ := hSw
    simp only [List.getElem_toArray, List.getElem_cons_zero, List.getElem_cons_succ]
    go_simp
    try rfl
  simp only [List.getElem_toArray, List.getElem_cons_zero, List.getElem_cons_succ, Act.put, List.setIfInBounds_toArray, List.set_cons_zero, List.set_cons_succ]
  refine' wpAnyH_take (i := 41) (v := _) rfl (by kernel_rfl) (by kernel_rfl) (by kernel_rfl) (fun _ _ _ h => h) (Or.inl ⟨by rfl, ?_⟩) (by assumption) ?_
  rotate_left
  · intro W hSw
    obtain ⟨q0, q1, q2, q3, q4⟩ := hSw
    simp only [List.getElem_toArray, List.getElem_cons_zero, List.getElem_cons_succ]
    go_simp
    try rfl
  simp only [List.getElem_toArray, List.getElem_cons_zero, List.getElem_cons_succ, Act.put, List.setIfInBounds_toArray, List.set_cons_zero, List.set_cons_succ]
  refine wpAnyH_ready (rs := [42]) (by kernel_rfl) (by simp) ?_
  refine AllReadyH.cons rfl (fun K hK => ?_) AllReadyH.nil
  simp only [List.getElem_toArray, List.getElem_cons_zero, List.getElem_cons_succ]
  go_simp
  refine (CV.out _ HB12).mono ?_
  rintro e w13 ⟨rfl, HB13⟩
  try go_simp
  refine hK.out _ _ (START.out _ (by first | assumption | exact hid_drew (by assumption) | exact hid_row (by assumption) _)) (fun hS => ?_)
  clear hK K
  try simp only [List.getElem_toArray, List.getElem_cons_zero, List.getElem_cons_succ, Act.put, List.setIfInBounds_toArray, List.set_cons_zero, List.set_cons_succ]
  refine' wpAnyH_take (i := 43) (v := _) rfl (by kernel_rfl) (by kernel_rfl) (by kernel_rfl) (fun _ _ _ h => h) (Or.inl ⟨by rfl, ?_⟩) (by assumption) ?_
  rotate_left
  · intro W hSw
    obtain ⟨q0, q1, q2, q3, q4⟩ := hSw
    simp only [List.getElem_toArray, List.getElem_cons_zero, List.getElem_cons_succ]
    go_simp
    try rfl
  simp only [List.getElem_toArray, List.getElem_cons_zero, List.getElem_cons_succ, Act.put, List.setIfInBounds_toArray, List.set_cons_zero, List.set_cons_succ]
  refine' wpAnyH_take (i := 44) (v := _) rfl (by kernel_rfl) (by kernel_rfl) (by kernel_rfl) (fun _ _ _ h => h) (Or.inl ⟨by rfl, ?_⟩) (by assumption) ?_
  rotate_left
  · intro W hSw
    obtain ⟨q0, q1, q2, q3, q4⟩ := hSw
    simp only [List.getElem_toArray, List.getElem_cons_zero, List.getElem_cons_succ]
    go_simp
    try rfl
  simp only [List.getElem_toArray, List.getElem_cons_zero, List.getElem_cons_succ, Act.put, List.setIfInBounds_toArray, List.set_cons_zero, List.set_cons_succ]
  refine' wpAnyH_take (i := 45) (v := _) rfl (by kernel_rfl) (by kernel_rfl) (by kernel_rfl) (fun _ _ _ h => h) (Or.inl ⟨by rfl, ?_⟩) (by assumption) ?_
  rotate_left
  · intro W hSw
    obtain ⟨q0, q1, q2, q3, q4⟩ := hSw
    simp only [List.getElem_toArray, List.getElem_cons_zero, List.getElem_cons_succ]
    go_simp
    try rfl
  simp only [List.getElem_toArray, List.getElem_cons_zero, List.getElem_cons_succ, Act.put, List.setIfInBounds_toArray, List.set_cons_zero, List.set_cons_succ]
  refine wpAnyH_done (by kernel_rfl) ?_ _
  have HF := Lib.hid (below_then HB7.out HB7.out.size HB13.out)
  go_wp2_with (fail)
  go_ret
  exact ⟨rfl, HF.out⟩
end Go.Proofs.YteceagldjnfeeaaDoor
