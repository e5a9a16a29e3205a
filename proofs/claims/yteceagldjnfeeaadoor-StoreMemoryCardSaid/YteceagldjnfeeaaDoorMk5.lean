/- The walks of isthmusref08.row and of both Roots. -/
import Derived.Test.YteceagldjnfeeaaDoorMk3
import Derived.Test.YteceagldjnfeeaaDoorMk4
namespace Go.Proofs.YteceagldjnfeeaaDoor
open Go.RowKit
set_option linter.unusedVariables false
set_option linter.unusedSimpArgs false

theorem keyAt_take (ps : List KV) (k j : Nat) (h : j < k) : keyAt (ps.take k) j = keyAt ps j := by
  unfold keyAt
  rw [List.getD_eq_getElem?_getD, List.getD_eq_getElem?_getD, List.getElem?_take, if_pos h]
theorem valAt_take (ps : List KV) (k j : Nat) (h : j < k) : valAt (ps.take k) j = valAt ps j := by
  unfold valAt
  rw [List.getD_eq_getElem?_getD, List.getD_eq_getElem?_getD, List.getElem?_take, if_pos h]
theorem keyAt_drop (ps : List KV) (k j : Nat) : keyAt (ps.drop k) j = keyAt ps (k + j) := by
  unfold keyAt
  rw [List.getD_eq_getElem?_getD, List.getD_eq_getElem?_getD, List.getElem?_drop]
theorem valAt_drop (ps : List KV) (k j : Nat) : valAt (ps.drop k) j = valAt ps (k + j) := by
  unfold valAt
  rw [List.getD_eq_getElem?_getD, List.getD_eq_getElem?_getD, List.getElem?_drop]
theorem Prs.left {w : World} {C b o n c : Nat} {ps : List KV} (h : Prs w C (some ⟨b, o, none⟩) n c ps) (k : Nat) (hk : k ≤ n) : Prs w C (some ⟨b, o, none⟩) k c (ps.take k) := by
  have hl := h.len
  have hc := h.cap
  refine ⟨by rw [List.length_take]; omega, by omega, h.big, fun j hj => ?_⟩
  obtain ⟨b', o', va, e, h1, h2, h3⟩ := h.cells j (by omega)
  rw [keyAt_take _ _ _ hj, valAt_take _ _ _ hj]
  exact ⟨b', o', va, e, h1, h2, h3⟩
theorem Prs.right {w : World} {C b o n c : Nat} {ps : List KV} (h : Prs w C (some ⟨b, o, none⟩) n c ps) (k : Nat) (hk : k ≤ n) : Prs w C (some ⟨b, o + k * 2, none⟩) (n - k) (c - k) (ps.drop k) := by
  have hl := h.len
  have hc := h.cap
  have hb := h.big
  refine ⟨by rw [List.length_drop]; omega, by omega, by omega, fun j hj => ?_⟩
  obtain ⟨b', o', va, e, h1, h2, h3⟩ := h.cells (k + j) (by omega)
  cases e
  rw [keyAt_drop, valAt_drop]
  exact ⟨b, o + k * 2, va, rfl, by rw [← h1]; congr 2; omega, by rw [← h2]; congr 2; omega, h3⟩

theorem run_sl42_l (w : World) (b o n c k : Nat) (hc : k ≤ c) :
    (Instr.slice 42 (.slice (some ⟨b, o, none⟩) n c) none (some (.int .i64 (k : Int))) none).run Tryd.prog w = .ok (.slice (some ⟨b, o, none⟩) k c) w := by
  have hs : (sizeOf (Tryd.prog.elem 42)).run Tryd.prog w = .ok 2 w := by kernel_rfl
  have e := run_slice_h (P := Tryd.prog) (w := w) 42 (some ⟨b, o, none⟩) n c (by kernel_rfl) .i64 (k : Int) (by omega) (by omega)
  rw [e, hs]
  simp only [Result.andThen_ok, sliced, Int.toNat_natCast, Nat.zero_mul, Nat.sub_zero]
  by_cases h0 : c = 0
  · rw [if_pos h0]
  · rw [if_neg h0]; simp only [Option.map_some, add_plain, Nat.add_zero]
theorem run_sl42_r (w : World) (b o n c k : Nat) (hk : k < n) (hc : n ≤ c) :
    (Instr.slice 42 (.slice (some ⟨b, o, none⟩) n c) (some (.int .i64 (k : Int))) none none).run Tryd.prog w = .ok (.slice (some ⟨b, o + k * 2, none⟩) (n - k) (c - k)) w := by
  have hs : (sizeOf (Tryd.prog.elem 42)).run Tryd.prog w = .ok 2 w := by kernel_rfl
  have e := run_slice_l (P := Tryd.prog) (w := w) 42 (some ⟨b, o, none⟩) n c (by kernel_rfl) .i64 (k : Int) (by omega) (by omega)
  rw [e, hs]
  simp only [Result.andThen_ok, sliced, Int.toNat_natCast]
  rw [if_neg (by omega)]
  simp only [Option.map_some, add_plain]
theorem rsplit_ok (n : Nat) (h2 : 2 ≤ n) : Hid (∀ w, n ≤ 65536 → Calls Tryd.prog 123 #[.int .i64 n] w fun e w' => e = .returned (.int .i64 (half n : Int)) ∧ w = w') := fun w hn => split_any n w h2 hn
theorem hid_drew {w W : World} {B : Nat} (h : Hid (Below B w W)) : Hid (Below B w W.drew) := h.out.drew
theorem hid_row {w W : World} (h : Hid (Below w.heap.size w W)) (o : Obj) : Hid (Below w.heap.size w (W.alloc o)) := below_then h.out h.out.size (row_below W o).out

set_option maxRecDepth 100000 in
set_option maxHeartbeats 8000000 in
theorem rrow_any (m : Nat) : ∀ {D : Nat} (b o n c : Nat) (ps : List KV) (w : World), n ≤ m → 1 ≤ n → n ≤ 65536 → (∀ k, k < n → (keyAt ps k).length ≤ maxLen) → Prs w D (some ⟨b, o, none⟩) n c ps → KAt1 w →
    Calls Tryd.prog 92 #[.slice (some ⟨b, o, none⟩) n c] w (RetP D (rowH (ps.map leafH)) w) := by
  induction m with
  | zero => intro D b o n c ps w h1 h2; omega
  | succ m ih =>
    intro D b o n c ps w hm hn1 hn hkl hh hK
    have HLN : Hid ((ps.map leafH).length = n) := by show _ = _; rw [List.length_map, hh.len]
    by_cases h2 : 2 ≤ n
    · have hlt := half_lt n h2
      have hp0 := half_pos n
      have hrow := rowH_two (ps.map leafH) (by rw [HLN.out]; exact h2)
      rw [HLN.out, ← List.map_take, ← List.map_drop] at hrow
      have hc := hh.cap
      have i1 : ((n : Int) == 1) = false := by rw [beq_eq_false_iff_ne]; omega
      have hspl := rsplit_ok n h2
      generalize half n = k at *
      have hsl := fun wx => run_sl42_l wx b o n c k (by omega)
      have hsr := fun wx => run_sl42_r wx b o n c k (by omega) (by omega)
      have CL : Hid (∀ W, Hid (Below w.heap.size w W) → Calls Tryd.prog 92 #[.slice (some ⟨b, o, none⟩) k c] W (fun e w' => ∃ a n c, e = .returned (.slice a n c) ∧ Hid (Below W.heap.size W w') ∧ Hid (Below w.heap.size w w') ∧ Hid (Pt w' D (.slice a n c) (rowH ((ps.take k).map leafH))))) := fun W hW =>
        (ih b o k c (ps.take k) W (by omega) (by omega) (by omega) (fun j hj => by rw [keyAt_take _ _ _ hj]; exact hkl j (by omega)) ((hh.left k (by omega)).below hW.out) (hK.below hK.pos hW.out)).mono fun e w' ⟨a, n, c, h1, h2, h3⟩ => ⟨a, n, c, h1, h2, below_then hW.out hW.out.size h2, h3⟩
      have CR : Hid (∀ W, Hid (Below w.heap.size w W) → Calls Tryd.prog 92 #[.slice (some ⟨b, o + k * 2, none⟩) (n - k) (c - k)] W (fun e w' => ∃ a n c, e = .returned (.slice a n c) ∧ Hid (Below W.heap.size W w') ∧ Hid (Below w.heap.size w w') ∧ Hid (Pt w' D (.slice a n c) (rowH ((ps.drop k).map leafH))))) := fun W hW =>
        (ih b (o + k * 2) (n - k) (c - k) (ps.drop k) W (by omega) (by omega) (by omega) (fun j hj => by rw [keyAt_drop]; exact hkl (k + j) (by omega)) ((hh.right k (by omega)).below hW.out) (hK.below hK.pos hW.out)).mono fun e w' ⟨a, n, c, h1, h2, h3⟩ => ⟨a, n, c, h1, h2, below_then hW.out hW.out.size h2, h3⟩
      have HK := Lib.hid hK
      have HROW := Lib.hid hrow
      clear hh hK hrow ih hc hm hkl
      generalize o + k * 2 = o2 at hsr CR
      generalize n - k = n2 at hsr CR
      generalize c - k = c2 at hsr CR
      go_enter Tryd.func92, Tryd.ntmps92
      go_wp2_with (fail)
      refine (hspl.out w hn).mono ?_
      rintro e w' ⟨rfl, rfl⟩
      go_wp2_with (fail)
      have hstart : Hid (Below w.heap.size w w) := Below.refl _ _
      have hstartd : Hid (Below w.heap.size w w.drew) := (Below.refl _ _).drew
      go_region_held3 (fun W => Hid (Below w.heap.size w W))
        (first
          | assumption
          | exact hid_drew (by assumption)
          | exact hid_row (by assumption) _
          | go_keep)
        (first
          | (go_at_call_of 92 (Value.slice (some ⟨b, o, none⟩) k c); refine (CL.out _ (by assumption)).mono ?_; rintro e w5 ⟨a5, n5, c5, rfl, HX5, HB5, HP5⟩)
          | (go_at_call_of 92 (Value.slice (some ⟨b, o2, none⟩) n2 c2); refine (CR.out _ (by assumption)).mono ?_; rintro e w6 ⟨a6, n6, c6, rfl, HX6, HB6, HP6⟩)
          | (go_at_call 32
             refine (rtagged_row (D := D) D wNode #[.slice a5 n5 c5, .slice a6 n6 c6] 2 [rowH ((ps.take k).map leafH), rowH ((ps.drop k).map leafH)] w6 (by decide) rfl (by omega) (.cons (HP5.out.below HX6.out) (.cons HP6.out .nil)) (HK.out.below HK.out.pos HB6.out)).mono ?_
             rintro e w7 ⟨a7, n7, c7, rfl, HX7, HP7⟩
             have HB7 : Hid (Below w.heap.size w w7) := below_then HB6.out HB6.out.size HX7)
          | (go_at_call 32
             refine (rtagged_row (D := D) D wNode #[.slice a5 n5 c5, .slice a6 n6 c6] 2 [rowH ((ps.take k).map leafH), rowH ((ps.drop k).map leafH)] w5 (by decide) rfl (by omega) (.cons HP5.out (.cons (HP6.out.below HX5.out) .nil)) (HK.out.below HK.out.pos HB5.out)).mono ?_
             rintro e w7 ⟨a7, n7, c7, rfl, HX7, HP7⟩
             have HB7 : Hid (Below w.heap.size w w7) := below_then HB5.out HB5.out.size HX7))
      all_goals (
        have HP8 := Lib.hid HP7
        clear HP7 HX7
        go_wp2_with (fail)
        go_ret
        rw [HROW.out]
        exact ⟨_, _, _, rfl, HB7.out, HP8.out⟩)
    · obtain rfl : n = 1 := by omega
      obtain ⟨b', o', va, e, g1, g2, hv⟩ := hh.cells 0 (by omega)
      cases e
      obtain ⟨a2, n2, c2, hva, hbs, hfr⟩ := id hv
      subst hva
      have hr : Hid (rowH (ps.map leafH) = leafH (keyAt ps 0, valAt ps 0)) := by
        show _ = _
        rw [rowH_one _ (by rw [HLN.out]; omega), map_leaf_at ps 0 (by rw [hh.len]; omega)]
      rw [Nat.zero_mul, Nat.add_zero] at g1 g2
      have HV := Lib.hid hv
      have HKK := Lib.hid (hkl 0 (by omega))
      have HK := Lib.hid hK
      clear hh hv hbs hfr hkl hK ih
      generalize keyAt ps 0 = kk at *
      go_enter Tryd.func92, Tryd.ntmps92
      go_wp2_with (fail)
      refine (rmleaf_any D kk _ a2 n2 c2 w HKK.out HV.out HK.out).mono ?_
      rintro e w3 ⟨a3, n3, c3, rfl, hb3, hp3⟩
      have HB3 := Lib.hid hb3
      have HP3 := Lib.hid hp3
      clear hb3 hp3
      go_wp2_with (fail)
      go_ret
      rw [hr.out]
      exact ⟨_, _, _, rfl, HB3.out, HP3.out⟩
end Go.Proofs.YteceagldjnfeeaaDoor
